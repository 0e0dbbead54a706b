/- A part of the proof of the law GstateZones: plain functions and what the machine's calls of them come to; printed by wip/extprint.py out of the kit's printer and contracts of our own. No condition but an answer of the plain function. -/
import Derived.Test.YtneiaobhjjbedaaPGstateZonesx0
import Derived.Test.YtneiaobhjjbedaaPGstateZonesx1
namespace Go.Proofs.Ytneiaobhjjbedaa.PGstateZones
open Go.RowKit Go.Proofs.YtneiaobhjjbedaaW.PrintWords Go.Proofs.YtneiaobhjjbedaaW.PrintLast Go.Proofs.YtneiaobhjjbedaaW.PrintMore
attribute [local go_sem] max2_int min2_int max_two min_two max_three min_three max_four min_four   -- for this text's walks alone
open Go.Value renaming ownBlock → oB
open Aside0 renaming mk → aK
open Go.Proofs.Ytneiaobhjjbedaa (st1 st2 st3 st5 st55 bc)
open Go.Proofs.YtneiaobhjjbedaaW.PrintWords renaming blk_drewN → bN, blk_drew → bD, blk_alloc → bA, below_alloc → lA, pw_below_drewN → lN, below_drew1 → lD, below_set → lS, blk_below → bB, blk_grown → bG, blk_cell → bC, blk_frozen → bF, blk_far → bR, blk_put → bP, below_size → lZ, below_step → lT
open Go.Proofs.YtneiaobhjjbedaaW.PrintWords.Kd renaming R_alloc → rA, R_drewN → rN, R_drew → rD, R_far → rF, R_mono → rM, R_below → rB, R_types → rT, R_grown → rG, C_alloc → cA, C_drewN → cN, C_drew → cD, R_reads' → rR
set_option linter.unusedVariables false
set_option linter.unusedSimpArgs false

attribute [local go_sem high] eqA43
/-! ### seriflaw09_gstateAlive: function 12 -/
def seriflaw09_gstateAlive.f : Option (Bool) := some true
theorem seriflaw09_gstateAlive.calls (r : Bool) (w : World) (h : seriflaw09_gstateAlive.f = some r) :
    Calls Try.prog 12 #[] w fun e w' => e = .returned (.bool r) ∧ Below w.heap.size w w' := by
  cases h
  exact Go.Proofs.Ytneiaobhjjbedaa.gstateAlive_calls w

/-! ### serifref09_Copy: function 16 -/
def serifref09_Copy.f (l0_0 : List (S43)) (l0_1 : List (S43)) (l0_2 : List Bool) (l0_3 : List Bool) (l0_4 : List Int) : Option ((List (S43)) × (List (S43)) × List Bool × List Bool × List Int) := if ([] : List (S43)).length + l0_0.length < 8796093022208 then (if ([] : List (S43)).length + l0_1.length < 8796093022208 then (if ([] : List Bool).length + l0_2.length < 140737488355328 then (if ([] : List Bool).length + l0_3.length < 140737488355328 then (if ([] : List Int).length + l0_4.length < 17592186044416 then (some ((([] : List (S43)) ++ l0_0), (([] : List (S43)) ++ l0_1), (([] : List Bool) ++ l0_2), (([] : List Bool) ++ l0_3), (([] : List Int) ++ l0_4))) else (none)) else (none)) else (none)) else (none)) else (none)
set_option maxHeartbeats 8000000 in
set_option maxRecDepth 100000 in
theorem serifref09_Copy.calls (A0_0 : Option Addr) (c0_0 : Nat) (l0_0 : List (S43)) (A0_1 : Option Addr) (c0_1 : Nat) (l0_1 : List (S43)) (A0_2 : Option Addr) (c0_2 : Nat) (l0_2 : List Bool) (A0_3 : Option Addr) (c0_3 : Nat) (l0_3 : List Bool) (A0_4 : Option Addr) (c0_4 : Nat) (l0_4 : List Int) (r1 : List (S43)) (r2 : List (S43)) (r3 : List Bool) (r4 : List Bool) (r5 : List Int) (w : World) (hr0_0 : Kd.C k43 w A0_0 l0_0.length l0_0) (hc0_0 : l0_0.length ≤ c0_0) (hr0_1 : Kd.C k43 w A0_1 l0_1.length l0_1) (hc0_1 : l0_1.length ≤ c0_1) (hr0_2 : Kd.C Kd.bool w A0_2 l0_2.length l0_2) (hc0_2 : l0_2.length ≤ c0_2) (hr0_3 : Kd.C Kd.bool w A0_3 l0_3.length l0_3) (hc0_3 : l0_3.length ≤ c0_3) (hr0_4 : Kd.C (Kd.int .i64) w A0_4 l0_4.length l0_4) (hc0_4 : l0_4.length ≤ c0_4) (h : serifref09_Copy.f l0_0 l0_1 l0_2 l0_3 l0_4 = some (r1, r2, r3, r4, r5)) :
  Calls Try.prog 16 #[.agg #[.slice A0_0 l0_0.length c0_0, .slice A0_1 l0_1.length c0_1, .slice A0_2 l0_2.length c0_2, .slice A0_3 l0_3.length c0_3, .slice A0_4 l0_4.length c0_4]] w fun e w' => ∃ v0_ v1_ v2_ v3_ v4_ : Value, e = .returned (.agg #[v0_, v1_, v2_, v3_, v4_]) ∧ Kd.R k43 43 w' w.heap.size (fun k_ => some k_ ≠ oB v1_) v0_ r1 ∧ Kd.R k43 43 w' w.heap.size (fun k_ => some k_ ≠ oB v0_) v1_ r2 ∧ Kd.R Kd.bool 4 w' w.heap.size (fun k_ => some k_ ≠ oB v3_) v2_ r3 ∧ Kd.R Kd.bool 4 w' w.heap.size (fun k_ => some k_ ≠ oB v2_) v3_ r4 ∧ Kd.R (Kd.int .i64) 3 w' w.heap.size (fun _ => True) v4_ r5 ∧ Below w.heap.size w w' := by
 have hu30 := Try.underlying30; have HR0_0 := aK hr0_0; have HC0_0 := aK hc0_0; clear hr0_0 hc0_0; have HR0_1 := aK hr0_1; have HC0_1 := aK hc0_1; clear hr0_1 hc0_1; have HR0_2 := aK hr0_2; have HC0_2 := aK hc0_2; clear hr0_2 hc0_2; have HR0_3 := aK hr0_3; have HC0_3 := aK hc0_3; clear hr0_3 hc0_3; have HR0_4 := aK hr0_4; have HC0_4 := aK hc0_4; clear hr0_4 hc0_4; have HB := aK (Below.refl w.heap.size w); have H : (if ([] : List (S43)).length + l0_0.length < 8796093022208 then (if ([] : List (S43)).length + l0_1.length < 8796093022208 then (if ([] : List Bool).length + l0_2.length < 140737488355328 then (if ([] : List Bool).length + l0_3.length < 140737488355328 then (if ([] : List Int).length + l0_4.length < 17592186044416 then (some ((([] : List (S43)) ++ l0_0), (([] : List (S43)) ++ l0_1), (([] : List Bool) ++ l0_2), (([] : List Bool) ++ l0_3), (([] : List Int) ++ l0_4))) else (none)) else (none)) else (none)) else (none)) else (none)) = some (r1, r2, r3, r4, r5) := h; clear h
 by_cases c2 : ([] : List (S43)).length + l0_0.length < 8796093022208
 ·rw [if_pos c2] at H
  have LMc2 := aK c2; clear c2; obtain ⟨y104, hy104⟩ : ∃ y_ : List (S43), y_ = (([] : List (S43)) ++ l0_0) := ⟨_, rfl⟩; replace H : (if ([] : List (S43)).length + l0_1.length < 8796093022208 then (if ([] : List Bool).length + l0_2.length < 140737488355328 then (if ([] : List Bool).length + l0_3.length < 140737488355328 then (if ([] : List Int).length + l0_4.length < 17592186044416 then (some (y104, (([] : List (S43)) ++ l0_1), (([] : List Bool) ++ l0_2), (([] : List Bool) ++ l0_3), (([] : List Int) ++ l0_4))) else (none)) else (none)) else (none)) else (none)) = some (r1, r2, r3, r4, r5) := by first | (rw [hy104]; with_reducible exact H) | (have H2_ := (Option.bind_some _ _).symm.trans H; rw [hy104]; with_reducible exact H2_) | (have H2_ := (Option.bind_some _ _).symm.trans H; with_reducible exact H2_) | with_reducible exact H | (rw [hy104]; exact H) | exact H
  have Ny104 := aK hy104; clear hy104
  by_cases c3 : ([] : List (S43)).length + l0_1.length < 8796093022208
  ·rw [if_pos c3] at H
   have LMc3 := aK c3; clear c3; obtain ⟨y107, hy107⟩ : ∃ y_ : List (S43), y_ = (([] : List (S43)) ++ l0_1) := ⟨_, rfl⟩; replace H : (if ([] : List Bool).length + l0_2.length < 140737488355328 then (if ([] : List Bool).length + l0_3.length < 140737488355328 then (if ([] : List Int).length + l0_4.length < 17592186044416 then (some (y104, y107, (([] : List Bool) ++ l0_2), (([] : List Bool) ++ l0_3), (([] : List Int) ++ l0_4))) else (none)) else (none)) else (none)) = some (r1, r2, r3, r4, r5) := by first | (rw [hy107]; with_reducible exact H) | (have H2_ := (Option.bind_some _ _).symm.trans H; rw [hy107]; with_reducible exact H2_) | (have H2_ := (Option.bind_some _ _).symm.trans H; with_reducible exact H2_) | with_reducible exact H | (rw [hy107]; exact H) | exact H
   have Ny107 := aK hy107; clear hy107
   by_cases c4 : ([] : List Bool).length + l0_2.length < 140737488355328
   ·rw [if_pos c4] at H
    have LMc4 := aK c4; clear c4; obtain ⟨y110, hy110⟩ : ∃ y_ : List Bool, y_ = (([] : List Bool) ++ l0_2) := ⟨_, rfl⟩; replace H : (if ([] : List Bool).length + l0_3.length < 140737488355328 then (if ([] : List Int).length + l0_4.length < 17592186044416 then (some (y104, y107, y110, (([] : List Bool) ++ l0_3), (([] : List Int) ++ l0_4))) else (none)) else (none)) = some (r1, r2, r3, r4, r5) := by first | (rw [hy110]; with_reducible exact H) | (have H2_ := (Option.bind_some _ _).symm.trans H; rw [hy110]; with_reducible exact H2_) | (have H2_ := (Option.bind_some _ _).symm.trans H; with_reducible exact H2_) | with_reducible exact H | (rw [hy110]; exact H) | exact H
    have Ny110 := aK hy110; clear hy110
    by_cases c5 : ([] : List Bool).length + l0_3.length < 140737488355328
    ·rw [if_pos c5] at H
     have LMc5 := aK c5; clear c5; obtain ⟨y113, hy113⟩ : ∃ y_ : List Bool, y_ = (([] : List Bool) ++ l0_3) := ⟨_, rfl⟩; replace H : (if ([] : List Int).length + l0_4.length < 17592186044416 then (some (y104, y107, y110, y113, (([] : List Int) ++ l0_4))) else (none)) = some (r1, r2, r3, r4, r5) := by first | (rw [hy113]; with_reducible exact H) | (have H2_ := (Option.bind_some _ _).symm.trans H; rw [hy113]; with_reducible exact H2_) | (have H2_ := (Option.bind_some _ _).symm.trans H; with_reducible exact H2_) | with_reducible exact H | (rw [hy113]; exact H) | exact H
     have Ny113 := aK hy113; clear hy113
     by_cases c6 : ([] : List Int).length + l0_4.length < 17592186044416
     ·rw [if_pos c6] at H
      have LMc6 := aK c6; clear c6; obtain ⟨y116, hy116⟩ : ∃ y_ : List Int, y_ = (([] : List Int) ++ l0_4) := ⟨_, rfl⟩; replace H : (some (y104, y107, y110, y113, y116)) = some (r1, r2, r3, r4, r5) := by first | (rw [hy116]; with_reducible exact H) | (have H2_ := (Option.bind_some _ _).symm.trans H; rw [hy116]; with_reducible exact H2_) | (have H2_ := (Option.bind_some _ _).symm.trans H; with_reducible exact H2_) | with_reducible exact H | (rw [hy116]; exact H) | exact H
      have Ny116 := aK hy116; clear hy116
      simp only [Option.some.injEq, Prod.mk.injEq] at H
      obtain ⟨rfl, rfl, rfl, rfl, rfl⟩ := H
      go_enter Try.func16, Try.ntmps16
      go_wp2_with (first | ((with_reducible refine gate_dst (N := 1) rfl ?_); refine box_event ?hg (N := 1) ?hd (cs := #[.slice A0_0 l0_0.length c0_0, .slice A0_1 l0_1.length c0_1, .slice A0_2 l0_2.length c0_2, .slice A0_3 l0_3.length c0_3, .slice A0_4 l0_4.length c0_4]) (t := 30) ?hr ?_; (case hd => rfl); (case hg => rfl); (case hr => first | (go_simp; done) | (go_simp; rfl)); intro gb101 hg w7 hbox hb; have BK101 := aK (hbox); have GW101 := aK ((by rw [hg]; exact (lZ (by with_reducible repeat first | exact HB.out | apply lN | apply lD)) : w.heap.size ≤ gb101)); have GE101 := aK ((by rw [hg]; exact (lZ (by with_reducible repeat first | exact HB.out | apply lN | apply lD)) : w.heap.size ≤ gb101)); replace HB := aK (lT HB.out hb); clear hb hbox hg) | ((with_reducible refine gate_dst (N := 2) rfl ?_); refine box_event ?hg (N := 2) ?hd (cs := #[.slice none 0 0, .slice none 0 0, .slice none 0 0, .slice none 0 0, .slice none 0 0]) (t := 30) ?hr ?_; (case hd => rfl); (case hg => rfl); (case hr => first | (go_simp; done) | (go_simp; rfl)); intro gb102 hg w8 hbox hb; have BK102 := aK (hbox); have GW102 := aK ((by rw [hg]; exact (lZ (by with_reducible repeat first | exact HB.out | apply lN | apply lD | refine lS ?_ GE101.out)) : w.heap.size ≤ gb102)); have GE102 := aK ((by rw [hg]; exact (lZ (by with_reducible repeat first | exact HB.out | apply lN | apply lD | refine lS ?_ GE101.out)) : w.heap.size ≤ gb102)); have NB101_102 := aK ((by rw [hg]; exact Nat.ne_of_lt (blk_lt BK101.out) : gb101 ≠ gb102)); have NB102_101 := aK ((by rw [hg]; exact Nat.ne_of_gt (blk_lt BK101.out) : gb102 ≠ gb101)); replace BK101 := aK (bB BK101.out hb); replace HB := aK (lT (by with_reducible repeat first | exact HB.out | refine lS ?_ GE101.out) hb); clear hb hbox hg) | ((with_reducible refine gate_dst (N := 3) rfl ?_); refine box_event ?hg (N := 3) ?hd (cs := #[.slice none 0 0, .slice none 0 0, .slice none 0 0, .slice none 0 0, .slice none 0 0]) (t := 30) ?hr ?_; (case hd => rfl); (case hg => rfl); (case hr => first | (go_simp; done) | (go_simp; rfl)); intro gb103 hg w9 hbox hb; have BK103 := aK (hbox); have GW103 := aK ((by rw [hg]; exact (lZ (by with_reducible repeat first | exact HB.out | apply lN | apply lD | refine lS ?_ GE101.out | refine lS ?_ GE102.out)) : w.heap.size ≤ gb103)); have GE103 := aK ((by rw [hg]; exact (lZ (by with_reducible repeat first | exact HB.out | apply lN | apply lD | refine lS ?_ GE101.out | refine lS ?_ GE102.out)) : w.heap.size ≤ gb103)); have NB101_103 := aK ((by rw [hg]; exact Nat.ne_of_lt (blk_lt BK101.out) : gb101 ≠ gb103)); have NB103_101 := aK ((by rw [hg]; exact Nat.ne_of_gt (blk_lt BK101.out) : gb103 ≠ gb101)); have NB102_103 := aK ((by rw [hg]; exact Nat.ne_of_lt (blk_lt BK102.out) : gb102 ≠ gb103)); have NB103_102 := aK ((by rw [hg]; exact Nat.ne_of_gt (blk_lt BK102.out) : gb103 ≠ gb102)); replace BK101 := aK (bB BK101.out hb); replace BK102 := aK (bB BK102.out hb); replace HB := aK (lT (by with_reducible repeat first | exact HB.out | refine lS ?_ GE101.out | refine lS ?_ GE102.out) hb); clear hb hbox hg; have hnb10 := NB103_101.out; have hnc10 := NB101_103.out; have hnb11 := NB103_102.out; have hnc11 := NB102_103.out; have hcz12_0 := bc BK103.out 0 rfl; have hcz12_1 := bc BK103.out 1 rfl; have hcz12_2 := bc BK103.out 2 rfl; have hcz12_3 := bc BK103.out 3 rfl; have hcz12_4 := bc BK103.out 4 rfl; have hfz12_0 := bF BK103.out 0; have hfz12_1 := bF BK103.out 1; have hfz12_2 := bF BK103.out 2; have hfz12_3 := bF BK103.out 3; have hfz12_4 := bF BK103.out 4; have hnb13 := NB101_102.out; have hnc13 := NB102_101.out; have hcz14_0 := bc BK101.out 0 rfl; have hcz14_1 := bc BK101.out 1 rfl; have hcz14_2 := bc BK101.out 2 rfl; have hcz14_3 := bc BK101.out 3 rfl; have hcz14_4 := bc BK101.out 4 rfl; have hfz14_0 := bF BK101.out 0; have hfz14_1 := bF BK101.out 1; have hfz14_2 := bF BK101.out 2; have hfz14_3 := bF BK101.out 3; have hfz14_4 := bF BK101.out 4) | ((with_reducible refine gate_builtin (b := .append) (xs := #[.tmp 6, .tmp 8]) rfl ?_); at_builtin; refine Kd.R_append_rows k43 (w0 := w) w.heap.size rfl (.tmp 6) (.tmp 8) 26 43 (.agg #[(.int .i64 0), (.int .i64 0)]) 16 rfl Try.underlying26 info43 rfl (by decide) (by omega) (.slice none 0 0) ([] : List (S43)) l0_0 _ _ _ (fun _ => True) (fun _ => False) rfl rfl ?aO ?aR (fun _ _ h => h) (fun _ h => h.elim) ?aF ?aB ?aS ?aL ?_; (case aR => exact Kd.C_below HR0_0.out (by with_reducible repeat first | exact HB.out | apply lN | apply lD | refine lS ?_ GE101.out | refine lS ?_ GE102.out | refine lS ?_ GE103.out)); (case aB => exact (by with_reducible repeat first | exact HB.out | apply lN | apply lD | refine lS ?_ GE101.out | refine lS ?_ GE102.out | refine lS ?_ GE103.out)); (case aF => exact (fun _ _ => trivial)); (case aO => exact ((Kd.R_nil _ _ _ _ (fun _ => True)))); (case aS => exact (lZ (by with_reducible repeat first | exact HB.out | apply lN | apply lD | refine lS ?_ GE101.out | refine lS ?_ GE102.out | refine lS ?_ GE103.out))); (case aL => have := LMc2.out; omega); intro v105 w15 ho hb hg hat; rw [← Ny104.out] at ho; have HO106 := aK (ho); replace BK101 := aK (bG (bR (bR (bR (bR (bR BK101.out NB101_103.out _) NB101_103.out _) NB101_103.out _) NB101_103.out _) NB101_103.out _) hg (by simp [Value.ownBlock])); replace BK102 := aK (bG (bR (bR (bR (bR (bR BK102.out NB102_103.out _) NB102_103.out _) NB102_103.out _) NB102_103.out _) NB102_103.out _) hg (by simp [Value.ownBlock])); replace BK103 := aK (bG (bP (cs := #[.slice none 0 0, .slice none 0 0, .slice none 0 0, .slice none 0 0, .slice none 0 0]) (bP (cs := #[.slice none 0 0, .slice none 0 0, .slice none 0 0, .slice none 0 0, .slice none 0 0]) (bP (cs := #[.slice none 0 0, .slice none 0 0, .slice none 0 0, .slice none 0 0, .slice none 0 0]) (bP (cs := #[.slice none 0 0, .slice none 0 0, .slice none 0 0, .slice none 0 0, .slice none 0 0]) (bP (cs := #[.slice none 0 0, .slice none 0 0, .slice none 0 0, .slice none 0 0, .slice none 0 0]) BK103.out 0 _ rfl) 1 _ rfl) 2 _ rfl) 3 _ rfl) 4 _ rfl) hg (by simp [Value.ownBlock])); replace HB := aK (hb); clear ho hb hg hat; obtain ⟨Ao16, co16, eo16⟩ := Kd.R_slice HO106.out; subst eo16; have hcz17_0 := bc BK103.out 0 rfl; have hcz17_1 := bc BK103.out 1 rfl; have hcz17_2 := bc BK103.out 2 rfl; have hcz17_3 := bc BK103.out 3 rfl; have hcz17_4 := bc BK103.out 4 rfl; have hfz17_0 := bF BK103.out 0; have hfz17_1 := bF BK103.out 1; have hfz17_2 := bF BK103.out 2; have hfz17_3 := bF BK103.out 3; have hfz17_4 := bF BK103.out 4; have hcz18_0 := bc BK101.out 0 rfl; have hcz18_1 := bc BK101.out 1 rfl; have hcz18_2 := bc BK101.out 2 rfl; have hcz18_3 := bc BK101.out 3 rfl; have hcz18_4 := bc BK101.out 4 rfl; have hfz18_0 := bF BK101.out 0; have hfz18_1 := bF BK101.out 1; have hfz18_2 := bF BK101.out 2; have hfz18_3 := bF BK101.out 3; have hfz18_4 := bF BK101.out 4) | ((with_reducible refine gate_builtin (b := .append) (xs := #[.tmp 12, .tmp 14]) rfl ?_); at_builtin; refine Kd.R_append_rows k43 (w0 := w) w.heap.size rfl (.tmp 12) (.tmp 14) 26 43 (.agg #[(.int .i64 0), (.int .i64 0)]) 16 rfl Try.underlying26 info43 rfl (by decide) (by omega) (.slice none 0 0) ([] : List (S43)) l0_1 _ _ _ (fun k_ => some k_ ≠ oB (.slice Ao16 y104.length co16)) (fun _ => False) rfl rfl ?aO ?aR (fun _ _ h => h) (fun _ h => h.elim) ?aF ?aB ?aS ?aL ?_; (case aR => exact Kd.C_below HR0_1.out (by with_reducible repeat first | exact HB.out | apply lN | apply lD | refine lS ?_ GE101.out | refine lS ?_ GE102.out | refine lS ?_ GE103.out)); (case aB => exact (by with_reducible repeat first | exact HB.out | apply lN | apply lD | refine lS ?_ GE101.out | refine lS ?_ GE102.out | refine lS ?_ GE103.out)); (case aF => exact (fun k_ hk => Kd.fresh' (Kd.R_lt (st1 HO106.out BK103.out (by decide))) k_ hk)); (case aO => exact ((Kd.R_nil _ _ _ _ (fun k_ => some k_ ≠ oB (.slice Ao16 y104.length co16))))); (case aS => exact (lZ (by with_reducible repeat first | exact HB.out | apply lN | apply lD | refine lS ?_ GE101.out | refine lS ?_ GE102.out | refine lS ?_ GE103.out))); (case aL => have := LMc3.out; omega); intro v108 w19 ho hb hg hat; rw [← Ny107.out] at ho; have HO109 := aK (ho); replace BK101 := aK (bG (bR BK101.out NB101_103.out _) hg (by simp [Value.ownBlock])); replace BK102 := aK (bG (bR BK102.out NB102_103.out _) hg (by simp [Value.ownBlock])); replace HO106 := aK (Kd.R_after (Kd.R_apart_nil (st1 HO106.out BK103.out (by decide))) hg hat); replace BK103 := aK (bG (bP (cs := #[.slice none 0 0, .slice none 0 0, .slice none 0 0, .slice none 0 0, .slice none 0 0]) BK103.out 0 _ rfl) hg (by simp [Value.ownBlock])); replace HB := aK (hb); clear ho hb hg hat; obtain ⟨Ao20, co20, eo20⟩ := Kd.R_slice HO109.out; subst eo20; have hcz21_0 := bc BK103.out 0 rfl; have hcz21_1 := bc BK103.out 1 rfl; have hcz21_2 := bc BK103.out 2 rfl; have hcz21_3 := bc BK103.out 3 rfl; have hcz21_4 := bc BK103.out 4 rfl; have hfz21_0 := bF BK103.out 0; have hfz21_1 := bF BK103.out 1; have hfz21_2 := bF BK103.out 2; have hfz21_3 := bF BK103.out 3; have hfz21_4 := bF BK103.out 4; have hcz22_0 := bc BK101.out 0 rfl; have hcz22_1 := bc BK101.out 1 rfl; have hcz22_2 := bc BK101.out 2 rfl; have hcz22_3 := bc BK101.out 3 rfl; have hcz22_4 := bc BK101.out 4 rfl; have hfz22_0 := bF BK101.out 0; have hfz22_1 := bF BK101.out 1; have hfz22_2 := bF BK101.out 2; have hfz22_3 := bF BK101.out 3; have hfz22_4 := bF BK101.out 4) | ((with_reducible refine gate_builtin (b := .append) (xs := #[.tmp 18, .tmp 20]) rfl ?_); at_builtin; refine Kd.R_append_rows Kd.bool (w0 := w) w.heap.size rfl (.tmp 18) (.tmp 20) 27 4 (.bool false) 1 rfl Try.underlying27 info4 rfl (by decide) (by omega) (.slice none 0 0) ([] : List Bool) l0_2 _ _ _ (fun _ => True) (fun _ => False) rfl rfl ?aO ?aR (fun _ _ h => h) (fun _ h => h.elim) ?aF ?aB ?aS ?aL ?_; (case aR => exact Kd.C_below HR0_2.out (by with_reducible repeat first | exact HB.out | apply lN | apply lD | refine lS ?_ GE101.out | refine lS ?_ GE102.out | refine lS ?_ GE103.out)); (case aB => exact (by with_reducible repeat first | exact HB.out | apply lN | apply lD | refine lS ?_ GE101.out | refine lS ?_ GE102.out | refine lS ?_ GE103.out)); (case aF => exact (fun _ _ => trivial)); (case aO => exact ((Kd.R_nil _ _ _ _ (fun _ => True)))); (case aS => exact (lZ (by with_reducible repeat first | exact HB.out | apply lN | apply lD | refine lS ?_ GE101.out | refine lS ?_ GE102.out | refine lS ?_ GE103.out))); (case aL => have := LMc4.out; omega); intro v111 w23 ho hb hg hat; rw [← Ny110.out] at ho; have HO112 := aK (ho); replace BK101 := aK (bG (bR BK101.out NB101_103.out _) hg (by simp [Value.ownBlock])); replace BK102 := aK (bG (bR BK102.out NB102_103.out _) hg (by simp [Value.ownBlock])); replace HO106 := aK (rG (st1 HO106.out BK103.out (by decide)) hg (fun _ _ => by simp [Value.ownBlock])); replace HO109 := aK (rG (st1 HO109.out BK103.out (by decide)) hg (fun _ _ => by simp [Value.ownBlock])); replace BK103 := aK (bG (bP (cs := #[.slice Ao16 y104.length co16, .slice none 0 0, .slice none 0 0, .slice none 0 0, .slice none 0 0]) BK103.out 1 _ rfl) hg (by simp [Value.ownBlock])); replace HB := aK (hb); clear ho hb hg hat; obtain ⟨Ao24, co24, eo24⟩ := Kd.R_slice HO112.out; subst eo24; have hcz25_0 := bc BK103.out 0 rfl; have hcz25_1 := bc BK103.out 1 rfl; have hcz25_2 := bc BK103.out 2 rfl; have hcz25_3 := bc BK103.out 3 rfl; have hcz25_4 := bc BK103.out 4 rfl; have hfz25_0 := bF BK103.out 0; have hfz25_1 := bF BK103.out 1; have hfz25_2 := bF BK103.out 2; have hfz25_3 := bF BK103.out 3; have hfz25_4 := bF BK103.out 4; have hcz26_0 := bc BK101.out 0 rfl; have hcz26_1 := bc BK101.out 1 rfl; have hcz26_2 := bc BK101.out 2 rfl; have hcz26_3 := bc BK101.out 3 rfl; have hcz26_4 := bc BK101.out 4 rfl; have hfz26_0 := bF BK101.out 0; have hfz26_1 := bF BK101.out 1; have hfz26_2 := bF BK101.out 2; have hfz26_3 := bF BK101.out 3; have hfz26_4 := bF BK101.out 4) | ((with_reducible refine gate_builtin (b := .append) (xs := #[.tmp 24, .tmp 26]) rfl ?_); at_builtin; refine Kd.R_append_rows Kd.bool (w0 := w) w.heap.size rfl (.tmp 24) (.tmp 26) 27 4 (.bool false) 1 rfl Try.underlying27 info4 rfl (by decide) (by omega) (.slice none 0 0) ([] : List Bool) l0_3 _ _ _ (fun k_ => some k_ ≠ oB (.slice Ao24 y110.length co24)) (fun _ => False) rfl rfl ?aO ?aR (fun _ _ h => h) (fun _ h => h.elim) ?aF ?aB ?aS ?aL ?_; (case aR => exact Kd.C_below HR0_3.out (by with_reducible repeat first | exact HB.out | apply lN | apply lD | refine lS ?_ GE101.out | refine lS ?_ GE102.out | refine lS ?_ GE103.out)); (case aB => exact (by with_reducible repeat first | exact HB.out | apply lN | apply lD | refine lS ?_ GE101.out | refine lS ?_ GE102.out | refine lS ?_ GE103.out)); (case aF => exact (fun k_ hk => Kd.fresh' (Kd.R_lt (st1 HO112.out BK103.out (by decide))) k_ hk)); (case aO => exact ((Kd.R_nil _ _ _ _ (fun k_ => some k_ ≠ oB (.slice Ao24 y110.length co24))))); (case aS => exact (lZ (by with_reducible repeat first | exact HB.out | apply lN | apply lD | refine lS ?_ GE101.out | refine lS ?_ GE102.out | refine lS ?_ GE103.out))); (case aL => have := LMc5.out; omega); intro v114 w27 ho hb hg hat; rw [← Ny113.out] at ho; have HO115 := aK (ho); replace BK101 := aK (bG (bR BK101.out NB101_103.out _) hg (by simp [Value.ownBlock])); replace BK102 := aK (bG (bR BK102.out NB102_103.out _) hg (by simp [Value.ownBlock])); replace HO106 := aK (rG (st1 HO106.out BK103.out (by decide)) hg (fun _ _ => by simp [Value.ownBlock])); replace HO109 := aK (rG (st1 HO109.out BK103.out (by decide)) hg (fun _ _ => by simp [Value.ownBlock])); replace HO112 := aK (Kd.R_after (Kd.R_apart_nil (st1 HO112.out BK103.out (by decide))) hg hat); replace BK103 := aK (bG (bP (cs := #[.slice Ao16 y104.length co16, .slice Ao20 y107.length co20, .slice none 0 0, .slice none 0 0, .slice none 0 0]) BK103.out 2 _ rfl) hg (by simp [Value.ownBlock])); replace HB := aK (hb); clear ho hb hg hat; obtain ⟨Ao28, co28, eo28⟩ := Kd.R_slice HO115.out; subst eo28; have hcz29_0 := bc BK103.out 0 rfl; have hcz29_1 := bc BK103.out 1 rfl; have hcz29_2 := bc BK103.out 2 rfl; have hcz29_3 := bc BK103.out 3 rfl; have hcz29_4 := bc BK103.out 4 rfl; have hfz29_0 := bF BK103.out 0; have hfz29_1 := bF BK103.out 1; have hfz29_2 := bF BK103.out 2; have hfz29_3 := bF BK103.out 3; have hfz29_4 := bF BK103.out 4; have hcz30_0 := bc BK101.out 0 rfl; have hcz30_1 := bc BK101.out 1 rfl; have hcz30_2 := bc BK101.out 2 rfl; have hcz30_3 := bc BK101.out 3 rfl; have hcz30_4 := bc BK101.out 4 rfl; have hfz30_0 := bF BK101.out 0; have hfz30_1 := bF BK101.out 1; have hfz30_2 := bF BK101.out 2; have hfz30_3 := bF BK101.out 3; have hfz30_4 := bF BK101.out 4) | ((with_reducible refine gate_builtin (b := .append) (xs := #[.tmp 30, .tmp 32]) rfl ?_); at_builtin; refine Kd.R_append_rows (Kd.int .i64) (w0 := w) w.heap.size rfl (.tmp 30) (.tmp 32) 28 3 (.int .i64 0) 8 rfl Try.underlying28 info3 rfl (by decide) (by omega) (.slice none 0 0) ([] : List Int) l0_4 _ _ _ (fun _ => True) (fun _ => False) rfl rfl ?aO ?aR (fun _ _ h => h) (fun _ h => h.elim) ?aF ?aB ?aS ?aL ?_; (case aR => exact Kd.C_below HR0_4.out (by with_reducible repeat first | exact HB.out | apply lN | apply lD | refine lS ?_ GE101.out | refine lS ?_ GE102.out | refine lS ?_ GE103.out)); (case aB => exact (by with_reducible repeat first | exact HB.out | apply lN | apply lD | refine lS ?_ GE101.out | refine lS ?_ GE102.out | refine lS ?_ GE103.out)); (case aF => exact (fun _ _ => trivial)); (case aO => exact ((Kd.R_nil _ _ _ _ (fun _ => True)))); (case aS => exact (lZ (by with_reducible repeat first | exact HB.out | apply lN | apply lD | refine lS ?_ GE101.out | refine lS ?_ GE102.out | refine lS ?_ GE103.out))); (case aL => have := LMc6.out; omega); intro v117 w31 ho hb hg hat; rw [← Ny116.out] at ho; have HO118 := aK (ho); replace BK101 := aK (bG (bR BK101.out NB101_103.out _) hg (by simp [Value.ownBlock])); replace BK102 := aK (bG (bR BK102.out NB102_103.out _) hg (by simp [Value.ownBlock])); replace HO106 := aK (rG (st1 HO106.out BK103.out (by decide)) hg (fun _ _ => by simp [Value.ownBlock])); replace HO109 := aK (rG (st1 HO109.out BK103.out (by decide)) hg (fun _ _ => by simp [Value.ownBlock])); replace HO112 := aK (rG (st1 HO112.out BK103.out (by decide)) hg (fun _ _ => by simp [Value.ownBlock])); replace HO115 := aK (rG (st1 HO115.out BK103.out (by decide)) hg (fun _ _ => by simp [Value.ownBlock])); replace BK103 := aK (bG (bP (cs := #[.slice Ao16 y104.length co16, .slice Ao20 y107.length co20, .slice Ao24 y110.length co24, .slice none 0 0, .slice none 0 0]) BK103.out 3 _ rfl) hg (by simp [Value.ownBlock])); replace HB := aK (hb); clear ho hb hg hat; obtain ⟨Ao32, co32, eo32⟩ := Kd.R_slice HO118.out; subst eo32; have hcz33_0 := bc BK103.out 0 rfl; have hcz33_1 := bc BK103.out 1 rfl; have hcz33_2 := bc BK103.out 2 rfl; have hcz33_3 := bc BK103.out 3 rfl; have hcz33_4 := bc BK103.out 4 rfl; have hfz33_0 := bF BK103.out 0; have hfz33_1 := bF BK103.out 1; have hfz33_2 := bF BK103.out 2; have hfz33_3 := bF BK103.out 3; have hfz33_4 := bF BK103.out 4; have hcz34_0 := bc BK102.out 0 rfl; have hcz34_1 := bc BK102.out 1 rfl; have hcz34_2 := bc BK102.out 2 rfl; have hcz34_3 := bc BK102.out 3 rfl; have hcz34_4 := bc BK102.out 4 rfl; have hfz34_0 := bF BK102.out 0; have hfz34_1 := bF BK102.out 1; have hfz34_2 := bF BK102.out 2; have hfz34_3 := bF BK102.out 3; have hfz34_4 := bF BK102.out 4))
      refine bodyPost_ret (results_cell_row rfl _ _ gb102 30 #[.slice Ao16 y104.length co16, .slice Ao20 y107.length co20, .slice Ao24 y110.length co24, .slice Ao28 y113.length co28, .slice Ao32 y116.length co32] (0, 0) _ rfl (by (with_reducible repeat (first | refine bN ?_ _ | refine bD ?_ | refine bA ?_ _)); refine bP (cs := #[.slice Ao16 y104.length co16, .slice Ao20 y107.length co20, .slice Ao24 y110.length co24, .slice Ao28 y113.length co28, .slice none 0 0]) ?_ 4 _ rfl; (with_reducible repeat (first | refine bN ?_ _ | refine bD ?_ | refine bA ?_ _)); refine bP (cs := #[.slice Ao16 y104.length co16, .slice Ao20 y107.length co20, .slice Ao24 y110.length co24, .slice none 0 0, .slice none 0 0]) ?_ 3 _ rfl; (with_reducible repeat (first | refine bN ?_ _ | refine bD ?_ | refine bA ?_ _)); refine bP (cs := #[.slice Ao16 y104.length co16, .slice Ao20 y107.length co20, .slice none 0 0, .slice none 0 0, .slice none 0 0]) ?_ 2 _ rfl; (with_reducible repeat (first | refine bN ?_ _ | refine bD ?_ | refine bA ?_ _)); refine bP (cs := #[.slice Ao16 y104.length co16, .slice none 0 0, .slice none 0 0, .slice none 0 0, .slice none 0 0]) ?_ 1 _ rfl; (with_reducible repeat (first | refine bN ?_ _ | refine bD ?_ | refine bA ?_ _)); refine bP (cs := #[.slice none 0 0, .slice none 0 0, .slice none 0 0, .slice none 0 0, .slice none 0 0]) ?_ 0 _ rfl; (with_reducible repeat (first | refine bN ?_ _ | refine bD ?_ | refine bA ?_ _)); refine bR ?_ NB102_103.out _; (with_reducible repeat (first | refine bN ?_ _ | refine bD ?_ | refine bA ?_ _)); exact BK102.out) Try.underlying30 rfl (by kernel_rfl)) rfl ?_
      exact ⟨_, _, _, _, _, by first | rfl | (simp [errW_none, errW_some] <;> rfl) | (simp [*, errW_none, errW_some] <;> rfl), by (with_reducible repeat (first | apply rA | apply rN | apply rD)); exact rM (rF (p := ⟨gb102, 4, none⟩) (rF (p := ⟨gb102, 3, none⟩) (rF (p := ⟨gb102, 2, none⟩) (rF (p := ⟨gb102, 1, none⟩) (rF (p := ⟨gb102, 0, none⟩) (rF (p := ⟨gb103, 4, none⟩) (rT (rT HO106.out BK103.out (by decide)) BK102.out (by decide)) (fun _ hk => hk.1.2) (.slice Ao32 y116.length co32)) (fun _ hk => hk.2) (.slice Ao16 y104.length co16)) (fun _ hk => hk.2) (.slice Ao20 y107.length co20)) (fun _ hk => hk.2) (.slice Ao24 y110.length co24)) (fun _ hk => hk.2) (.slice Ao28 y113.length co28)) (fun _ hk => hk.2) (.slice Ao32 y116.length co32)) (fun _ hk => hk.1.1.2), by (with_reducible repeat (first | apply rA | apply rN | apply rD)); exact rM (rF (p := ⟨gb102, 4, none⟩) (rF (p := ⟨gb102, 3, none⟩) (rF (p := ⟨gb102, 2, none⟩) (rF (p := ⟨gb102, 1, none⟩) (rF (p := ⟨gb102, 0, none⟩) (rF (p := ⟨gb103, 4, none⟩) (rT (rT HO109.out BK103.out (by decide)) BK102.out (by decide)) (fun _ hk => hk.1.2) (.slice Ao32 y116.length co32)) (fun _ hk => hk.2) (.slice Ao16 y104.length co16)) (fun _ hk => hk.2) (.slice Ao20 y107.length co20)) (fun _ hk => hk.2) (.slice Ao24 y110.length co24)) (fun _ hk => hk.2) (.slice Ao28 y113.length co28)) (fun _ hk => hk.2) (.slice Ao32 y116.length co32)) (fun _ hk => hk.1.1), by (with_reducible repeat (first | apply rA | apply rN | apply rD)); exact rM (rF (p := ⟨gb102, 4, none⟩) (rF (p := ⟨gb102, 3, none⟩) (rF (p := ⟨gb102, 2, none⟩) (rF (p := ⟨gb102, 1, none⟩) (rF (p := ⟨gb102, 0, none⟩) (rF (p := ⟨gb103, 4, none⟩) (rT (rT HO112.out BK103.out (by decide)) BK102.out (by decide)) (fun _ hk => hk.1.2) (.slice Ao32 y116.length co32)) (fun _ hk => hk.2) (.slice Ao16 y104.length co16)) (fun _ hk => hk.2) (.slice Ao20 y107.length co20)) (fun _ hk => hk.2) (.slice Ao24 y110.length co24)) (fun _ hk => hk.2) (.slice Ao28 y113.length co28)) (fun _ hk => hk.2) (.slice Ao32 y116.length co32)) (fun _ hk => hk.1.1.2), by (with_reducible repeat (first | apply rA | apply rN | apply rD)); exact rM (rF (p := ⟨gb102, 4, none⟩) (rF (p := ⟨gb102, 3, none⟩) (rF (p := ⟨gb102, 2, none⟩) (rF (p := ⟨gb102, 1, none⟩) (rF (p := ⟨gb102, 0, none⟩) (rF (p := ⟨gb103, 4, none⟩) (rT (rT HO115.out BK103.out (by decide)) BK102.out (by decide)) (fun _ hk => hk.1.2) (.slice Ao32 y116.length co32)) (fun _ hk => hk.2) (.slice Ao16 y104.length co16)) (fun _ hk => hk.2) (.slice Ao20 y107.length co20)) (fun _ hk => hk.2) (.slice Ao24 y110.length co24)) (fun _ hk => hk.2) (.slice Ao28 y113.length co28)) (fun _ hk => hk.2) (.slice Ao32 y116.length co32)) (fun _ hk => hk.1.1), by (with_reducible repeat (first | apply rA | apply rN | apply rD)); exact rM (rF (p := ⟨gb102, 4, none⟩) (rF (p := ⟨gb102, 3, none⟩) (rF (p := ⟨gb102, 2, none⟩) (rF (p := ⟨gb102, 1, none⟩) (rF (p := ⟨gb102, 0, none⟩) (rF (p := ⟨gb103, 4, none⟩) (rT (rT HO118.out BK103.out (by decide)) BK102.out (by decide)) (fun _ hk => hk.1.2) (.slice Ao32 y116.length co32)) (fun _ hk => hk.2) (.slice Ao16 y104.length co16)) (fun _ hk => hk.2) (.slice Ao20 y107.length co20)) (fun _ hk => hk.2) (.slice Ao24 y110.length co24)) (fun _ hk => hk.2) (.slice Ao28 y113.length co28)) (fun _ hk => hk.2) (.slice Ao32 y116.length co32)) (fun _ hk => trivial), by with_reducible repeat first | exact HB.out | apply lN | apply lD | refine lS ?_ GE101.out | refine lS ?_ GE102.out | refine lS ?_ GE103.out⟩
     ·rw [if_neg c6] at H
      exact absurd H (by simp)
    ·rw [if_neg c5] at H
     exact absurd H (by simp)
   ·rw [if_neg c4] at H
    exact absurd H (by simp)
  ·rw [if_neg c3] at H
   exact absurd H (by simp)
 ·rw [if_neg c2] at H
  exact absurd H (by simp)

/-! ### serifref02_SameInts: function 35 -/
def serifref02_SameInts.l0 : Nat → List Int → List Int → Int → Int → Option (Bool)
 | 0, _, _, _, _ => none
 | k + 1, x0, x1, x12, x13 => if x13 < x12 then (if 0 ≤ x13 then (if x13 < (x0.length : Int) then (if x13 < (x1.length : Int) then (if (rd x0 x13) = (rd x1 x13) then (serifref02_SameInts.l0 k x0 x1 x12 (wrap64 (x13 + 1))) else (some false)) else (none)) else (none)) else (none)) else (some true)
def serifref02_SameInts.f (k : Nat) (l0 : List Int) (l1 : List Int) : Option (Bool) := if (l0.length : Int) = (l1.length : Int) then (serifref02_SameInts.l0 k l0 l1 (l0.length : Int) 0) else (some false)
theorem serifref02_SameInts.mono_l : ∀ k, (∀ y0 y1 y2 y3, LeO (serifref02_SameInts.l0 k y0 y1 y2 y3) (serifref02_SameInts.l0 (k + 1) y0 y1 y2 y3))
 | 0 => fun _ _ _ _ r h => by simp [serifref02_SameInts.l0] at h
 | k + 1 => by
  have ih0 := serifref02_SameInts.mono_l k
  ·intro y0 y1 y2 y3
   unfold serifref02_SameInts.l0
   repeat' first
   | (with_reducible exact ih0 _ _ _ _)
   | (with_reducible exact LeO.refl _)
   | (with_reducible exact LeO.none _)
   | (with_reducible refine LeO.ite ?_ ?_)
   | (with_reducible refine LeO.bind ?_ (fun _ => ?_))
   | exact ih0 _ _ _ _
   | exact LeO.none _
   | refine LeO.ite ?_ ?_
   | refine LeO.bind ?_ (fun _ => ?_)
theorem serifref02_SameInts.mono : ∀ a0 a1 k, LeO (serifref02_SameInts.f k a0 a1) (serifref02_SameInts.f (k + 1) a0 a1) := by
 intro a0 a1 k
 have ih0 := serifref02_SameInts.mono_l k
 unfold serifref02_SameInts.f
 repeat' first
   | (with_reducible exact ih0 _ _ _ _)
   | (with_reducible exact LeO.refl _)
   | (with_reducible exact LeO.none _)
   | (with_reducible refine LeO.ite ?_ ?_)
   | (with_reducible refine LeO.bind ?_ (fun _ => ?_))
   | exact ih0 _ _ _ _
   | exact LeO.none _
   | refine LeO.ite ?_ ?_
   | refine LeO.bind ?_ (fun _ => ?_)
set_option maxHeartbeats 8000000 in
set_option maxRecDepth 100000 in
theorem serifref02_SameInts.calls (k : Nat) (A0 : Option Addr) (c0 : Nat) (l0 : List Int) (A1 : Option Addr) (c1 : Nat) (l1 : List Int) (r : Bool) (w : World) (hr0 : Kd.C (Kd.int .i64) w A0 l0.length l0) (hc0 : l0.length ≤ c0) (hr1 : Kd.C (Kd.int .i64) w A1 l1.length l1) (hc1 : l1.length ≤ c1) (h : serifref02_SameInts.f k l0 l1 = some r) :
  Calls Try.prog 35 #[.slice A0 l0.length c0, .slice A1 l1.length c1] w fun e w' => e = .returned (.bool r) ∧ Drawn0 w w' := by
 have HR0 := aK hr0; have HC0 := aK hc0; clear hr0 hc0; have HR1 := aK hr1; have HC1 := aK hc1; clear hr1 hc1; have H : (if (l0.length : Int) = (l1.length : Int) then (serifref02_SameInts.l0 k l0 l1 (l0.length : Int) 0) else (some false)) = some r := h; clear h
 by_cases c3 : (l0.length : Int) = (l1.length : Int)
 ·rw [if_pos c3] at H
  have c3b0 : ((l0.length : Int) == (l1.length : Int)) = true := beq_iff_eq.mpr c3; have c3b1 : ((l0.length : Int) != (l1.length : Int)) = false := bne_eq_false_iff_eq.mpr c3; have c3b2 : (l0.length == l1.length) = true := by first | simpa using c3 | (simp at c3 ⊢; omega)
  clear c3; have H' := aK H; clear H
  go_enter Try.func35, Try.ntmps35
  go_wp2
  repeat (go_quiet (fail); try go_wp2)
  go_loopg [13] k (fun kq v13 w' => ∃ (x13_1 : Int), v13 = .int .i64 x13_1 ∧ Aside0 (serifref02_SameInts.l0 kq l0 l1 (l0.length : Int) x13_1 = some r) ∧ Aside0 (kq ≤ k) ∧ Drawn0 w w')
  case atStart => exact ⟨(0), (by first | rfl | (simp; done) | (simp [*]; done)), H', ⟨Nat.le_refl _⟩, by repeat (first | exact Drawn0.refl _ | apply Drawn0.step)⟩
  case round =>
   clear H'; (try clear c1); (try clear p2); (try clear c3); (try clear c3b0); (try clear c3b1); (try clear c3b2); obtain ⟨x13_1, rfl, HA, HK1, ⟨m1, rfl⟩⟩ := hrel
   cases gk with
   | zero => exact absurd HA.out (by simp [serifref02_SameInts.l0])
   | succ k1 =>
    have H := HA.out; clear HA
    simp only [serifref02_SameInts.l0] at H
    by_cases c4 : x13_1 < (l0.length : Int)
    ·rw [if_pos c4] at H
     have c4b0 : decide (x13_1 < (l0.length : Int)) = true := decide_eq_true c4; clear c4
     by_cases c5 : 0 ≤ x13_1
     ·rw [if_pos c5] at H
      have c5b0 : decide (0 ≤ x13_1) = true := decide_eq_true c5; clear c5
      by_cases c6 : x13_1 < (l0.length : Int)
      ·rw [if_pos c6] at H
       have c6b0 : decide (x13_1 < (l0.length : Int)) = true := decide_eq_true c6; clear c6
       by_cases c7 : x13_1 < (l1.length : Int)
       ·rw [if_pos c7] at H
        have c7b0 : decide (x13_1 < (l1.length : Int)) = true := decide_eq_true c7; clear c7
        by_cases c8 : (rd l0 x13_1) = (rd l1 x13_1)
        ·rw [if_pos c8] at H
         have c8b0 : ((rd l0 x13_1) == (rd l1 x13_1)) = true := beq_iff_eq.mpr c8; have c8b1 : ((rd l0 x13_1) != (rd l1 x13_1)) = false := bne_eq_false_iff_eq.mpr c8; clear c8; have H' := aK H; clear H; have p119 : 0 ≤ (x13_1 : Int) := of_decide_eq_true (by first | (with_reducible assumption) | assumption); have q119 : x13_1 < (l0.length : Int) := of_decide_eq_true (by first | (with_reducible assumption) | assumption); obtain ⟨ad119, e119, hx119_0⟩ := Kd.at_int HR0.out x13_1 p119 q119
         cases e119
         replace p119 := eq_true p119; replace q119 := eq_true q119; have p120 : 0 ≤ (x13_1 : Int) := of_decide_eq_true (by first | (with_reducible assumption) | assumption); have q120 : x13_1 < (l1.length : Int) := of_decide_eq_true (by first | (with_reducible assumption) | assumption); obtain ⟨ad120, e120, hx120_0⟩ := Kd.at_int HR1.out x13_1 p120 q120
         cases e120
         replace p120 := eq_true p120; replace q120 := eq_true q120
         go_wp2
         repeat (go_quiet (fail); try go_wp2)
         go_roundg k1
         case measure => have := HK1.out; omega
         case rel => exact ⟨(wrap64 (x13_1 + 1)), (by first | rfl | (simp; done) | (simp [*]; done)), H', ⟨by have := HK1.out; omega⟩, by repeat (first | exact Drawn0.refl _ | apply Drawn0.step)⟩
        ·rw [if_neg c8] at H
         have c8b0 : ((rd l0 x13_1) == (rd l1 x13_1)) = false := beq_eq_false_iff_ne.mpr c8; have c8b1 : ((rd l0 x13_1) != (rd l1 x13_1)) = true := bne_iff_ne.mpr c8; obtain rfl := Option.some.inj H; have p119 : 0 ≤ (x13_1 : Int) := of_decide_eq_true (by first | (with_reducible assumption) | assumption); have q119 : x13_1 < (l0.length : Int) := of_decide_eq_true (by first | (with_reducible assumption) | assumption); obtain ⟨ad119, e119, hx119_0⟩ := Kd.at_int HR0.out x13_1 p119 q119
         cases e119
         replace p119 := eq_true p119; replace q119 := eq_true q119; have p120 : 0 ≤ (x13_1 : Int) := of_decide_eq_true (by first | (with_reducible assumption) | assumption); have q120 : x13_1 < (l1.length : Int) := of_decide_eq_true (by first | (with_reducible assumption) | assumption); obtain ⟨ad120, e120, hx120_0⟩ := Kd.at_int HR1.out x13_1 p120 q120
         cases e120
         replace p120 := eq_true p120; replace q120 := eq_true q120
         go_wp2
         repeat (go_quiet (fail); try go_wp2)
         go_ret
         exact ⟨by first | rfl | (simp; done) | (simp [*]; done), by repeat (first | exact Drawn0.refl _ | apply Drawn0.step)⟩
       ·rw [if_neg c7] at H
        exact absurd H (by simp)
      ·rw [if_neg c6] at H
       exact absurd H (by simp)
     ·rw [if_neg c5] at H
      exact absurd H (by simp)
    ·rw [if_neg c4] at H
     have c4b0 : decide (x13_1 < (l0.length : Int)) = false := decide_eq_false c4; clear c4; obtain rfl := Option.some.inj H
     go_wp2
     repeat (go_quiet (fail); try go_wp2)
     go_ret
     exact ⟨by first | rfl | (simp; done) | (simp [*]; done), by repeat (first | exact Drawn0.refl _ | apply Drawn0.step)⟩
 ·rw [if_neg c3] at H
  have c3b0 : ((l0.length : Int) == (l1.length : Int)) = false := beq_eq_false_iff_ne.mpr c3; have c3b1 : ((l0.length : Int) != (l1.length : Int)) = true := bne_iff_ne.mpr c3; have c3b2 : (l0.length == l1.length) = false := by first | simpa using c3 | (simp at c3 ⊢; omega)
  obtain rfl := Option.some.inj H
  go_enter Try.func35, Try.ntmps35
  go_wp2
  repeat (go_quiet (fail); try go_wp2)
  go_ret
  exact ⟨by first | rfl | (simp; done) | (simp [*]; done), by repeat (first | exact Drawn0.refl _ | apply Drawn0.step)⟩

/-! ### serifref09_sameSpots: function 45 -/
def serifref09_sameSpots.l0 : Nat → List (S43) → List (S43) → Int → Int → Option (Bool)
 | 0, _, _, _, _ => none
 | k + 1, x0, x1, x12, x13 => if x13 < x12 then (if 0 ≤ x13 then (if x13 < (x0.length : Int) then (if x13 < (x1.length : Int) then (if (!(((rd_T43 x0 x13).f0) == ((rd_T43 x1 x13).f0)) || (!(((rd_T43 x0 x13).f1) == ((rd_T43 x1 x13).f1)))) = true then (some false) else (serifref09_sameSpots.l0 k x0 x1 x12 (wrap64 (x13 + 1)))) else (none)) else (none)) else (none)) else (some true)
def serifref09_sameSpots.f (k : Nat) (l0 : List (S43)) (l1 : List (S43)) : Option (Bool) := if (l0.length : Int) = (l1.length : Int) then (serifref09_sameSpots.l0 k l0 l1 (l0.length : Int) 0) else (some false)
theorem serifref09_sameSpots.mono_l : ∀ k, (∀ y0 y1 y2 y3, LeO (serifref09_sameSpots.l0 k y0 y1 y2 y3) (serifref09_sameSpots.l0 (k + 1) y0 y1 y2 y3))
 | 0 => fun _ _ _ _ r h => by simp [serifref09_sameSpots.l0] at h
 | k + 1 => by
  have ih0 := serifref09_sameSpots.mono_l k
  ·intro y0 y1 y2 y3
   unfold serifref09_sameSpots.l0
   repeat' first
   | (with_reducible exact ih0 _ _ _ _)
   | (with_reducible exact LeO.refl _)
   | (with_reducible exact LeO.none _)
   | (with_reducible refine LeO.ite ?_ ?_)
   | (with_reducible refine LeO.bind ?_ (fun _ => ?_))
   | exact ih0 _ _ _ _
   | exact LeO.none _
   | refine LeO.ite ?_ ?_
   | refine LeO.bind ?_ (fun _ => ?_)
theorem serifref09_sameSpots.mono : ∀ a0 a1 k, LeO (serifref09_sameSpots.f k a0 a1) (serifref09_sameSpots.f (k + 1) a0 a1) := by
 intro a0 a1 k
 have ih0 := serifref09_sameSpots.mono_l k
 unfold serifref09_sameSpots.f
 repeat' first
   | (with_reducible exact ih0 _ _ _ _)
   | (with_reducible exact LeO.refl _)
   | (with_reducible exact LeO.none _)
   | (with_reducible refine LeO.ite ?_ ?_)
   | (with_reducible refine LeO.bind ?_ (fun _ => ?_))
   | exact ih0 _ _ _ _
   | exact LeO.none _
   | refine LeO.ite ?_ ?_
   | refine LeO.bind ?_ (fun _ => ?_)
set_option maxHeartbeats 8000000 in
set_option maxRecDepth 100000 in
theorem serifref09_sameSpots.calls (k : Nat) (A0 : Option Addr) (c0 : Nat) (l0 : List (S43)) (A1 : Option Addr) (c1 : Nat) (l1 : List (S43)) (r : Bool) (w : World) (hr0 : Kd.C k43 w A0 l0.length l0) (hc0 : l0.length ≤ c0) (hr1 : Kd.C k43 w A1 l1.length l1) (hc1 : l1.length ≤ c1) (h : serifref09_sameSpots.f k l0 l1 = some r) :
  Calls Try.prog 45 #[.slice A0 l0.length c0, .slice A1 l1.length c1] w fun e w' => e = .returned (.bool r) ∧ Drawn0 w w' := by
 have hu43 := Try.underlying43; have HR0 := aK hr0; have HC0 := aK hc0; clear hr0 hc0; have HR1 := aK hr1; have HC1 := aK hc1; clear hr1 hc1; have H : (if (l0.length : Int) = (l1.length : Int) then (serifref09_sameSpots.l0 k l0 l1 (l0.length : Int) 0) else (some false)) = some r := h; clear h
 by_cases c3 : (l0.length : Int) = (l1.length : Int)
 ·rw [if_pos c3] at H
  have c3b0 : ((l0.length : Int) == (l1.length : Int)) = true := beq_iff_eq.mpr c3; have c3b1 : ((l0.length : Int) != (l1.length : Int)) = false := bne_eq_false_iff_eq.mpr c3; have c3b2 : (l0.length == l1.length) = true := by first | simpa using c3 | (simp at c3 ⊢; omega)
  clear c3; have H' := aK H; clear H
  go_enter Try.func45, Try.ntmps45
  go_wp2
  repeat (go_quiet (fail); try go_wp2)
  go_loopg [13] k (fun kq v13 w' => ∃ (x13_1 : Int), v13 = .int .i64 x13_1 ∧ Aside0 (serifref09_sameSpots.l0 kq l0 l1 (l0.length : Int) x13_1 = some r) ∧ Aside0 (kq ≤ k) ∧ Drawn0 w w')
  case atStart => exact ⟨(0), (by first | rfl | (simp; done) | (simp [*]; done)), H', ⟨Nat.le_refl _⟩, by repeat (first | exact Drawn0.refl _ | apply Drawn0.step)⟩
  case round =>
   clear H'; (try clear c1); (try clear p2); (try clear c3); (try clear c3b0); (try clear c3b1); (try clear c3b2); obtain ⟨x13_1, rfl, HA, HK1, ⟨m1, rfl⟩⟩ := hrel
   cases gk with
   | zero => exact absurd HA.out (by simp [serifref09_sameSpots.l0])
   | succ k1 =>
    have H := HA.out; clear HA
    simp only [serifref09_sameSpots.l0] at H
    by_cases c4 : x13_1 < (l0.length : Int)
    ·rw [if_pos c4] at H
     have c4b0 : decide (x13_1 < (l0.length : Int)) = true := decide_eq_true c4; clear c4
     by_cases c5 : 0 ≤ x13_1
     ·rw [if_pos c5] at H
      have c5b0 : decide (0 ≤ x13_1) = true := decide_eq_true c5; clear c5
      by_cases c6 : x13_1 < (l0.length : Int)
      ·rw [if_pos c6] at H
       have c6b0 : decide (x13_1 < (l0.length : Int)) = true := decide_eq_true c6; clear c6
       by_cases c7 : x13_1 < (l1.length : Int)
       ·rw [if_pos c7] at H
        have c7b0 : decide (x13_1 < (l1.length : Int)) = true := decide_eq_true c7; clear c7
        by_cases c8 : (!(((rd_T43 l0 x13_1).f0) == ((rd_T43 l1 x13_1).f0)) || (!(((rd_T43 l0 x13_1).f1) == ((rd_T43 l1 x13_1).f1)))) = true
        ·rw [if_pos c8] at H
         have c8b0 : (!(((rd_T43 l0 x13_1).f0) == ((rd_T43 l1 x13_1).f0)) || (!(((rd_T43 l0 x13_1).f1) == ((rd_T43 l1 x13_1).f1)))) = true := c8; clear c8; obtain rfl := Option.some.inj H; have p121 : 0 ≤ (x13_1 : Int) := of_decide_eq_true (by first | (with_reducible assumption) | assumption); have q121 : x13_1 < (l0.length : Int) := of_decide_eq_true (by first | (with_reducible assumption) | assumption); obtain ⟨ad121, e121, hx121_0, hx121_1⟩ := at_T43 HR0.out x13_1 p121 q121
         cases e121
         replace p121 := eq_true p121; replace q121 := eq_true q121; have p122 : 0 ≤ (x13_1 : Int) := of_decide_eq_true (by first | (with_reducible assumption) | assumption); have q122 : x13_1 < (l1.length : Int) := of_decide_eq_true (by first | (with_reducible assumption) | assumption); obtain ⟨ad122, e122, hx122_0, hx122_1⟩ := at_T43 HR1.out x13_1 p122 q122
         cases e122
         replace p122 := eq_true p122; replace q122 := eq_true q122
         go_wp2
         repeat (go_quiet (fail); try go_wp2)
         go_ret
         exact ⟨by first | rfl | (simp; done) | (simp [*]; done), by repeat (first | exact Drawn0.refl _ | apply Drawn0.step)⟩
        ·rw [if_neg c8] at H
         have c8b0 : (!(((rd_T43 l0 x13_1).f0) == ((rd_T43 l1 x13_1).f0)) || (!(((rd_T43 l0 x13_1).f1) == ((rd_T43 l1 x13_1).f1)))) = false := by simpa using c8
         clear c8; have H' := aK H; clear H; have p121 : 0 ≤ (x13_1 : Int) := of_decide_eq_true (by first | (with_reducible assumption) | assumption); have q121 : x13_1 < (l0.length : Int) := of_decide_eq_true (by first | (with_reducible assumption) | assumption); obtain ⟨ad121, e121, hx121_0, hx121_1⟩ := at_T43 HR0.out x13_1 p121 q121
         cases e121
         replace p121 := eq_true p121; replace q121 := eq_true q121; have p122 : 0 ≤ (x13_1 : Int) := of_decide_eq_true (by first | (with_reducible assumption) | assumption); have q122 : x13_1 < (l1.length : Int) := of_decide_eq_true (by first | (with_reducible assumption) | assumption); obtain ⟨ad122, e122, hx122_0, hx122_1⟩ := at_T43 HR1.out x13_1 p122 q122
         cases e122
         replace p122 := eq_true p122; replace q122 := eq_true q122
         go_wp2
         repeat (go_quiet (fail); try go_wp2)
         go_roundg k1
         case measure => have := HK1.out; omega
         case rel => exact ⟨(wrap64 (x13_1 + 1)), (by first | rfl | (simp; done) | (simp [*]; done)), H', ⟨by have := HK1.out; omega⟩, by repeat (first | exact Drawn0.refl _ | apply Drawn0.step)⟩
       ·rw [if_neg c7] at H
        exact absurd H (by simp)
      ·rw [if_neg c6] at H
       exact absurd H (by simp)
     ·rw [if_neg c5] at H
      exact absurd H (by simp)
    ·rw [if_neg c4] at H
     have c4b0 : decide (x13_1 < (l0.length : Int)) = false := decide_eq_false c4; clear c4; obtain rfl := Option.some.inj H
     go_wp2
     repeat (go_quiet (fail); try go_wp2)
     go_ret
     exact ⟨by first | rfl | (simp; done) | (simp [*]; done), by repeat (first | exact Drawn0.refl _ | apply Drawn0.step)⟩
 ·rw [if_neg c3] at H
  have c3b0 : ((l0.length : Int) == (l1.length : Int)) = false := beq_eq_false_iff_ne.mpr c3; have c3b1 : ((l0.length : Int) != (l1.length : Int)) = true := bne_iff_ne.mpr c3; have c3b2 : (l0.length == l1.length) = false := by first | simpa using c3 | (simp at c3 ⊢; omega)
  obtain rfl := Option.some.inj H
  go_enter Try.func45, Try.ntmps45
  go_wp2
  repeat (go_quiet (fail); try go_wp2)
  go_ret
  exact ⟨by first | rfl | (simp; done) | (simp [*]; done), by repeat (first | exact Drawn0.refl _ | apply Drawn0.step)⟩

/-! ### serifref09_sameBools: function 46 -/
def serifref09_sameBools.l0 : Nat → List Bool → List Bool → Int → Int → Option (Bool)
 | 0, _, _, _, _ => none
 | k + 1, x0, x1, x12, x13 => if x13 < x12 then (if 0 ≤ x13 then (if x13 < (x0.length : Int) then (if x13 < (x1.length : Int) then (if ((rdOf false x0 x13) != (rdOf false x1 x13)) = true then (some false) else (serifref09_sameBools.l0 k x0 x1 x12 (wrap64 (x13 + 1)))) else (none)) else (none)) else (none)) else (some true)
def serifref09_sameBools.f (k : Nat) (l0 : List Bool) (l1 : List Bool) : Option (Bool) := if (l0.length : Int) = (l1.length : Int) then (serifref09_sameBools.l0 k l0 l1 (l0.length : Int) 0) else (some false)
theorem serifref09_sameBools.mono_l : ∀ k, (∀ y0 y1 y2 y3, LeO (serifref09_sameBools.l0 k y0 y1 y2 y3) (serifref09_sameBools.l0 (k + 1) y0 y1 y2 y3))
 | 0 => fun _ _ _ _ r h => by simp [serifref09_sameBools.l0] at h
 | k + 1 => by
  have ih0 := serifref09_sameBools.mono_l k
  ·intro y0 y1 y2 y3
   unfold serifref09_sameBools.l0
   repeat' first
   | (with_reducible exact ih0 _ _ _ _)
   | (with_reducible exact LeO.refl _)
   | (with_reducible exact LeO.none _)
   | (with_reducible refine LeO.ite ?_ ?_)
   | (with_reducible refine LeO.bind ?_ (fun _ => ?_))
   | exact ih0 _ _ _ _
   | exact LeO.none _
   | refine LeO.ite ?_ ?_
   | refine LeO.bind ?_ (fun _ => ?_)
theorem serifref09_sameBools.mono : ∀ a0 a1 k, LeO (serifref09_sameBools.f k a0 a1) (serifref09_sameBools.f (k + 1) a0 a1) := by
 intro a0 a1 k
 have ih0 := serifref09_sameBools.mono_l k
 unfold serifref09_sameBools.f
 repeat' first
   | (with_reducible exact ih0 _ _ _ _)
   | (with_reducible exact LeO.refl _)
   | (with_reducible exact LeO.none _)
   | (with_reducible refine LeO.ite ?_ ?_)
   | (with_reducible refine LeO.bind ?_ (fun _ => ?_))
   | exact ih0 _ _ _ _
   | exact LeO.none _
   | refine LeO.ite ?_ ?_
   | refine LeO.bind ?_ (fun _ => ?_)
set_option maxHeartbeats 8000000 in
set_option maxRecDepth 100000 in
theorem serifref09_sameBools.calls (k : Nat) (A0 : Option Addr) (c0 : Nat) (l0 : List Bool) (A1 : Option Addr) (c1 : Nat) (l1 : List Bool) (r : Bool) (w : World) (hr0 : Kd.C Kd.bool w A0 l0.length l0) (hc0 : l0.length ≤ c0) (hr1 : Kd.C Kd.bool w A1 l1.length l1) (hc1 : l1.length ≤ c1) (h : serifref09_sameBools.f k l0 l1 = some r) :
  Calls Try.prog 46 #[.slice A0 l0.length c0, .slice A1 l1.length c1] w fun e w' => e = .returned (.bool r) ∧ Drawn0 w w' := by
 have HR0 := aK hr0; have HC0 := aK hc0; clear hr0 hc0; have HR1 := aK hr1; have HC1 := aK hc1; clear hr1 hc1; have H : (if (l0.length : Int) = (l1.length : Int) then (serifref09_sameBools.l0 k l0 l1 (l0.length : Int) 0) else (some false)) = some r := h; clear h
 by_cases c3 : (l0.length : Int) = (l1.length : Int)
 ·rw [if_pos c3] at H
  have c3b0 : ((l0.length : Int) == (l1.length : Int)) = true := beq_iff_eq.mpr c3; have c3b1 : ((l0.length : Int) != (l1.length : Int)) = false := bne_eq_false_iff_eq.mpr c3; have c3b2 : (l0.length == l1.length) = true := by first | simpa using c3 | (simp at c3 ⊢; omega)
  clear c3; have H' := aK H; clear H
  go_enter Try.func46, Try.ntmps46
  go_wp2
  repeat (go_quiet (fail); try go_wp2)
  go_loopg [13] k (fun kq v13 w' => ∃ (x13_1 : Int), v13 = .int .i64 x13_1 ∧ Aside0 (serifref09_sameBools.l0 kq l0 l1 (l0.length : Int) x13_1 = some r) ∧ Aside0 (kq ≤ k) ∧ Drawn0 w w')
  case atStart => exact ⟨(0), (by first | rfl | (simp; done) | (simp [*]; done)), H', ⟨Nat.le_refl _⟩, by repeat (first | exact Drawn0.refl _ | apply Drawn0.step)⟩
  case round =>
   clear H'; (try clear c1); (try clear p2); (try clear c3); (try clear c3b0); (try clear c3b1); (try clear c3b2); obtain ⟨x13_1, rfl, HA, HK1, ⟨m1, rfl⟩⟩ := hrel
   cases gk with
   | zero => exact absurd HA.out (by simp [serifref09_sameBools.l0])
   | succ k1 =>
    have H := HA.out; clear HA
    simp only [serifref09_sameBools.l0] at H
    by_cases c4 : x13_1 < (l0.length : Int)
    ·rw [if_pos c4] at H
     have c4b0 : decide (x13_1 < (l0.length : Int)) = true := decide_eq_true c4; clear c4
     by_cases c5 : 0 ≤ x13_1
     ·rw [if_pos c5] at H
      have c5b0 : decide (0 ≤ x13_1) = true := decide_eq_true c5; clear c5
      by_cases c6 : x13_1 < (l0.length : Int)
      ·rw [if_pos c6] at H
       have c6b0 : decide (x13_1 < (l0.length : Int)) = true := decide_eq_true c6; clear c6
       by_cases c7 : x13_1 < (l1.length : Int)
       ·rw [if_pos c7] at H
        have c7b0 : decide (x13_1 < (l1.length : Int)) = true := decide_eq_true c7; clear c7
        by_cases c8 : ((rdOf false l0 x13_1) != (rdOf false l1 x13_1)) = true
        ·rw [if_pos c8] at H
         have c8b0 : ((rdOf false l0 x13_1) != (rdOf false l1 x13_1)) = true := c8
         (try (have c8b1 : decide ((rdOf false l0 x13_1) = (rdOf false l1 x13_1)) = false := by simpa using c8))
         (try (have c8b2 : ((rdOf false l0 x13_1) == (rdOf false l1 x13_1)) = false := by simpa using c8))
         (try (have c8b3 : ¬ ((rdOf false l0 x13_1) = (rdOf false l1 x13_1)) := by simpa using c8))
         clear c8; obtain rfl := Option.some.inj H; have p123 : 0 ≤ (x13_1 : Int) := of_decide_eq_true (by first | (with_reducible assumption) | assumption); have q123 : x13_1 < (l0.length : Int) := of_decide_eq_true (by first | (with_reducible assumption) | assumption); obtain ⟨ad123, e123, hx123_0⟩ := Kd.at_bool HR0.out x13_1 p123 q123
         cases e123
         replace p123 := eq_true p123; replace q123 := eq_true q123; have p124 : 0 ≤ (x13_1 : Int) := of_decide_eq_true (by first | (with_reducible assumption) | assumption); have q124 : x13_1 < (l1.length : Int) := of_decide_eq_true (by first | (with_reducible assumption) | assumption); obtain ⟨ad124, e124, hx124_0⟩ := Kd.at_bool HR1.out x13_1 p124 q124
         cases e124
         replace p124 := eq_true p124; replace q124 := eq_true q124
         go_wp2
         repeat (go_quiet (fail); try go_wp2)
         go_ret
         exact ⟨by first | rfl | (simp; done) | (simp [*]; done), by repeat (first | exact Drawn0.refl _ | apply Drawn0.step)⟩
        ·rw [if_neg c8] at H
         have c8b0 : ((rdOf false l0 x13_1) != (rdOf false l1 x13_1)) = false := by simpa using c8
         (try (have c8b1 : decide ((rdOf false l0 x13_1) = (rdOf false l1 x13_1)) = true := by simpa using c8))
         (try (have c8b2 : ((rdOf false l0 x13_1) == (rdOf false l1 x13_1)) = true := by simpa using c8))
         clear c8; have H' := aK H; clear H; have p123 : 0 ≤ (x13_1 : Int) := of_decide_eq_true (by first | (with_reducible assumption) | assumption); have q123 : x13_1 < (l0.length : Int) := of_decide_eq_true (by first | (with_reducible assumption) | assumption); obtain ⟨ad123, e123, hx123_0⟩ := Kd.at_bool HR0.out x13_1 p123 q123
         cases e123
         replace p123 := eq_true p123; replace q123 := eq_true q123; have p124 : 0 ≤ (x13_1 : Int) := of_decide_eq_true (by first | (with_reducible assumption) | assumption); have q124 : x13_1 < (l1.length : Int) := of_decide_eq_true (by first | (with_reducible assumption) | assumption); obtain ⟨ad124, e124, hx124_0⟩ := Kd.at_bool HR1.out x13_1 p124 q124
         cases e124
         replace p124 := eq_true p124; replace q124 := eq_true q124
         go_wp2
         repeat (go_quiet (fail); try go_wp2)
         go_roundg k1
         case measure => have := HK1.out; omega
         case rel => exact ⟨(wrap64 (x13_1 + 1)), (by first | rfl | (simp; done) | (simp [*]; done)), H', ⟨by have := HK1.out; omega⟩, by repeat (first | exact Drawn0.refl _ | apply Drawn0.step)⟩
       ·rw [if_neg c7] at H
        exact absurd H (by simp)
      ·rw [if_neg c6] at H
       exact absurd H (by simp)
     ·rw [if_neg c5] at H
      exact absurd H (by simp)
    ·rw [if_neg c4] at H
     have c4b0 : decide (x13_1 < (l0.length : Int)) = false := decide_eq_false c4; clear c4; obtain rfl := Option.some.inj H
     go_wp2
     repeat (go_quiet (fail); try go_wp2)
     go_ret
     exact ⟨by first | rfl | (simp; done) | (simp [*]; done), by repeat (first | exact Drawn0.refl _ | apply Drawn0.step)⟩
 ·rw [if_neg c3] at H
  have c3b0 : ((l0.length : Int) == (l1.length : Int)) = false := beq_eq_false_iff_ne.mpr c3; have c3b1 : ((l0.length : Int) != (l1.length : Int)) = true := bne_iff_ne.mpr c3; have c3b2 : (l0.length == l1.length) = false := by first | simpa using c3 | (simp at c3 ⊢; omega)
  obtain rfl := Option.some.inj H
  go_enter Try.func46, Try.ntmps46
  go_wp2
  repeat (go_quiet (fail); try go_wp2)
  go_ret
  exact ⟨by first | rfl | (simp; done) | (simp [*]; done), by repeat (first | exact Drawn0.refl _ | apply Drawn0.step)⟩

/-! ### serifref09_Same: function 19 -/
def serifref09_Same.f (k : Nat) (l0_0 : List (S43)) (l0_1 : List (S43)) (l0_2 : List Bool) (l0_3 : List Bool) (l0_4 : List Int) (l1_0 : List (S43)) (l1_1 : List (S43)) (l1_2 : List Bool) (l1_3 : List Bool) (l1_4 : List Int) : Option (Bool) := (serifref09_sameSpots.f k l0_0 l1_0).bind fun t127 => (if t127 = true then ((serifref09_sameSpots.f k l0_1 l1_1).bind fun t128 => (if t128 = true then ((serifref09_sameBools.f k l0_2 l1_2).bind fun t129 => (if t129 = true then ((serifref09_sameBools.f k l0_3 l1_3).bind fun t130 => (if t130 = true then ((serifref02_SameInts.f k l0_4 l1_4).bind fun t131 => (some t131)) else (some false))) else (some false))) else (some false))) else (some false))
theorem serifref09_Same.mono : ∀ a0 a1 a2 a3 a4 a5 a6 a7 a8 a9 k, LeO (serifref09_Same.f k a0 a1 a2 a3 a4 a5 a6 a7 a8 a9) (serifref09_Same.f (k + 1) a0 a1 a2 a3 a4 a5 a6 a7 a8 a9) := by
 intro a0 a1 a2 a3 a4 a5 a6 a7 a8 a9 k
 unfold serifref09_Same.f
 repeat' first
   | (with_reducible exact serifref02_SameInts.mono _ _ _)
   | (with_reducible exact serifref09_sameBools.mono _ _ _)
   | (with_reducible exact serifref09_sameSpots.mono _ _ _)
   | (with_reducible exact LeO.refl _)
   | (with_reducible exact LeO.none _)
   | (with_reducible refine LeO.ite ?_ ?_)
   | (with_reducible refine LeO.bind ?_ (fun _ => ?_))
   | exact serifref02_SameInts.mono _ _ _
   | exact serifref09_sameBools.mono _ _ _
   | exact serifref09_sameSpots.mono _ _ _
   | exact LeO.none _
   | refine LeO.ite ?_ ?_
   | refine LeO.bind ?_ (fun _ => ?_)
set_option maxHeartbeats 8000000 in
set_option maxRecDepth 100000 in
theorem serifref09_Same.calls (k : Nat) (A0_0 : Option Addr) (c0_0 : Nat) (l0_0 : List (S43)) (A0_1 : Option Addr) (c0_1 : Nat) (l0_1 : List (S43)) (A0_2 : Option Addr) (c0_2 : Nat) (l0_2 : List Bool) (A0_3 : Option Addr) (c0_3 : Nat) (l0_3 : List Bool) (A0_4 : Option Addr) (c0_4 : Nat) (l0_4 : List Int) (A1_0 : Option Addr) (c1_0 : Nat) (l1_0 : List (S43)) (A1_1 : Option Addr) (c1_1 : Nat) (l1_1 : List (S43)) (A1_2 : Option Addr) (c1_2 : Nat) (l1_2 : List Bool) (A1_3 : Option Addr) (c1_3 : Nat) (l1_3 : List Bool) (A1_4 : Option Addr) (c1_4 : Nat) (l1_4 : List Int) (r : Bool) (w : World) (hr0_0 : Kd.C k43 w A0_0 l0_0.length l0_0) (hc0_0 : l0_0.length ≤ c0_0) (hr0_1 : Kd.C k43 w A0_1 l0_1.length l0_1) (hc0_1 : l0_1.length ≤ c0_1) (hr0_2 : Kd.C Kd.bool w A0_2 l0_2.length l0_2) (hc0_2 : l0_2.length ≤ c0_2) (hr0_3 : Kd.C Kd.bool w A0_3 l0_3.length l0_3) (hc0_3 : l0_3.length ≤ c0_3) (hr0_4 : Kd.C (Kd.int .i64) w A0_4 l0_4.length l0_4) (hc0_4 : l0_4.length ≤ c0_4) (hr1_0 : Kd.C k43 w A1_0 l1_0.length l1_0) (hc1_0 : l1_0.length ≤ c1_0) (hr1_1 : Kd.C k43 w A1_1 l1_1.length l1_1) (hc1_1 : l1_1.length ≤ c1_1) (hr1_2 : Kd.C Kd.bool w A1_2 l1_2.length l1_2) (hc1_2 : l1_2.length ≤ c1_2) (hr1_3 : Kd.C Kd.bool w A1_3 l1_3.length l1_3) (hc1_3 : l1_3.length ≤ c1_3) (hr1_4 : Kd.C (Kd.int .i64) w A1_4 l1_4.length l1_4) (hc1_4 : l1_4.length ≤ c1_4) (h : serifref09_Same.f k l0_0 l0_1 l0_2 l0_3 l0_4 l1_0 l1_1 l1_2 l1_3 l1_4 = some r) :
  Calls Try.prog 19 #[.agg #[.slice A0_0 l0_0.length c0_0, .slice A0_1 l0_1.length c0_1, .slice A0_2 l0_2.length c0_2, .slice A0_3 l0_3.length c0_3, .slice A0_4 l0_4.length c0_4], .agg #[.slice A1_0 l1_0.length c1_0, .slice A1_1 l1_1.length c1_1, .slice A1_2 l1_2.length c1_2, .slice A1_3 l1_3.length c1_3, .slice A1_4 l1_4.length c1_4]] w fun e w' => e = .returned (.bool r) ∧ Below w.heap.size w w' := by
 have hu30 := Try.underlying30; have HR0_0 := aK hr0_0; have HC0_0 := aK hc0_0; clear hr0_0 hc0_0; have HR0_1 := aK hr0_1; have HC0_1 := aK hc0_1; clear hr0_1 hc0_1; have HR0_2 := aK hr0_2; have HC0_2 := aK hc0_2; clear hr0_2 hc0_2; have HR0_3 := aK hr0_3; have HC0_3 := aK hc0_3; clear hr0_3 hc0_3; have HR0_4 := aK hr0_4; have HC0_4 := aK hc0_4; clear hr0_4 hc0_4; have HR1_0 := aK hr1_0; have HC1_0 := aK hc1_0; clear hr1_0 hc1_0; have HR1_1 := aK hr1_1; have HC1_1 := aK hc1_1; clear hr1_1 hc1_1; have HR1_2 := aK hr1_2; have HC1_2 := aK hc1_2; clear hr1_2 hc1_2; have HR1_3 := aK hr1_3; have HC1_3 := aK hc1_3; clear hr1_3 hc1_3; have HR1_4 := aK hr1_4; have HC1_4 := aK hc1_4; clear hr1_4 hc1_4; have HB := aK (Below.refl w.heap.size w); have H : ((serifref09_sameSpots.f k l0_0 l1_0).bind fun t127 => (if t127 = true then ((serifref09_sameSpots.f k l0_1 l1_1).bind fun t128 => (if t128 = true then ((serifref09_sameBools.f k l0_2 l1_2).bind fun t129 => (if t129 = true then ((serifref09_sameBools.f k l0_3 l1_3).bind fun t130 => (if t130 = true then ((serifref02_SameInts.f k l0_4 l1_4).bind fun t131 => (some t131)) else (some false))) else (some false))) else (some false))) else (some false))) = some r := h; clear h; replace H := Option.bind_eq_some_iff.mp H; obtain ⟨t127, A30, H⟩ := H; replace H : (if t127 = true then ((serifref09_sameSpots.f k l0_1 l1_1).bind fun t128 => (if t128 = true then ((serifref09_sameBools.f k l0_2 l1_2).bind fun t129 => (if t129 = true then ((serifref09_sameBools.f k l0_3 l1_3).bind fun t130 => (if t130 = true then ((serifref02_SameInts.f k l0_4 l1_4).bind fun t131 => (some t131)) else (some false))) else (some false))) else (some false))) else (some false)) = some r := H; have A3 := aK A30; clear A30
 by_cases c4 : t127 = true
 ·subst c4
  have H1 : ((serifref09_sameSpots.f k l0_1 l1_1).bind fun t128 => (if t128 = true then ((serifref09_sameBools.f k l0_2 l1_2).bind fun t129 => (if t129 = true then ((serifref09_sameBools.f k l0_3 l1_3).bind fun t130 => (if t130 = true then ((serifref02_SameInts.f k l0_4 l1_4).bind fun t131 => (some t131)) else (some false))) else (some false))) else (some false))) = some r := by rw [if_pos rfl] at H; exact H
  clear H; have H := H1; clear H1; replace H := Option.bind_eq_some_iff.mp H; obtain ⟨t128, A50, H⟩ := H; replace H : (if t128 = true then ((serifref09_sameBools.f k l0_2 l1_2).bind fun t129 => (if t129 = true then ((serifref09_sameBools.f k l0_3 l1_3).bind fun t130 => (if t130 = true then ((serifref02_SameInts.f k l0_4 l1_4).bind fun t131 => (some t131)) else (some false))) else (some false))) else (some false)) = some r := H; have A5 := aK A50; clear A50
  by_cases c6 : t128 = true
  ·subst c6
   have H1 : ((serifref09_sameBools.f k l0_2 l1_2).bind fun t129 => (if t129 = true then ((serifref09_sameBools.f k l0_3 l1_3).bind fun t130 => (if t130 = true then ((serifref02_SameInts.f k l0_4 l1_4).bind fun t131 => (some t131)) else (some false))) else (some false))) = some r := by rw [if_pos rfl] at H; exact H
   clear H; have H := H1; clear H1; replace H := Option.bind_eq_some_iff.mp H; obtain ⟨t129, A70, H⟩ := H; replace H : (if t129 = true then ((serifref09_sameBools.f k l0_3 l1_3).bind fun t130 => (if t130 = true then ((serifref02_SameInts.f k l0_4 l1_4).bind fun t131 => (some t131)) else (some false))) else (some false)) = some r := H; have A7 := aK A70; clear A70
   by_cases c8 : t129 = true
   ·subst c8
    have H1 : ((serifref09_sameBools.f k l0_3 l1_3).bind fun t130 => (if t130 = true then ((serifref02_SameInts.f k l0_4 l1_4).bind fun t131 => (some t131)) else (some false))) = some r := by rw [if_pos rfl] at H; exact H
    clear H; have H := H1; clear H1; replace H := Option.bind_eq_some_iff.mp H; obtain ⟨t130, A90, H⟩ := H; replace H : (if t130 = true then ((serifref02_SameInts.f k l0_4 l1_4).bind fun t131 => (some t131)) else (some false)) = some r := H; have A9 := aK A90; clear A90
    by_cases c10 : t130 = true
    ·subst c10
     have H1 : ((serifref02_SameInts.f k l0_4 l1_4).bind fun t131 => (some t131)) = some r := by rw [if_pos rfl] at H; exact H
     clear H; have H := H1; clear H1; replace H := Option.bind_eq_some_iff.mp H; obtain ⟨t131, A110, H⟩ := H; replace H : (some t131) = some r := H; have A11 := aK A110; clear A110; obtain rfl := Option.some.inj H
     go_enter Try.func19, Try.ntmps19
     go_wp2_with (first | ((with_reducible refine gate_dst (N := 2) rfl ?_); refine box_event ?hg (N := 2) ?hd (cs := #[.slice A0_0 l0_0.length c0_0, .slice A0_1 l0_1.length c0_1, .slice A0_2 l0_2.length c0_2, .slice A0_3 l0_3.length c0_3, .slice A0_4 l0_4.length c0_4]) (t := 30) ?hr ?_; (case hd => rfl); (case hg => rfl); (case hr => first | (go_simp; done) | (go_simp; rfl)); intro gb125 hg w12 hbox hb; have BK125 := aK (hbox); have GW125 := aK ((by rw [hg]; exact (lZ (by with_reducible repeat first | exact HB.out | apply lN | apply lD)) : w.heap.size ≤ gb125)); have GE125 := aK ((by rw [hg]; exact (lZ (by with_reducible repeat first | exact HB.out | apply lN | apply lD)) : w.heap.size ≤ gb125)); replace HB := aK (lT HB.out hb); clear hb hbox hg) | ((with_reducible refine gate_dst (N := 3) rfl ?_); refine box_event ?hg (N := 3) ?hd (cs := #[.slice A1_0 l1_0.length c1_0, .slice A1_1 l1_1.length c1_1, .slice A1_2 l1_2.length c1_2, .slice A1_3 l1_3.length c1_3, .slice A1_4 l1_4.length c1_4]) (t := 30) ?hr ?_; (case hd => rfl); (case hg => rfl); (case hr => first | (go_simp; done) | (go_simp; rfl)); intro gb126 hg w13 hbox hb; have BK126 := aK (hbox); have GW126 := aK ((by rw [hg]; exact (lZ (by with_reducible repeat first | exact HB.out | apply lN | apply lD | refine lS ?_ GE125.out)) : w.heap.size ≤ gb126)); have GE126 := aK ((by rw [hg]; exact (lZ (by with_reducible repeat first | exact HB.out | apply lN | apply lD | refine lS ?_ GE125.out)) : w.heap.size ≤ gb126)); have NB125_126 := aK ((by rw [hg]; exact Nat.ne_of_lt (blk_lt BK125.out) : gb125 ≠ gb126)); have NB126_125 := aK ((by rw [hg]; exact Nat.ne_of_gt (blk_lt BK125.out) : gb126 ≠ gb125)); replace BK125 := aK (bB BK125.out hb); replace HB := aK (lT (by with_reducible repeat first | exact HB.out | refine lS ?_ GE125.out) hb); clear hb hbox hg; have hnb14 := NB125_126.out; have hnc14 := NB126_125.out; have hcz15_0 := bc BK125.out 0 rfl; have hcz15_1 := bc BK125.out 1 rfl; have hcz15_2 := bc BK125.out 2 rfl; have hcz15_3 := bc BK125.out 3 rfl; have hcz15_4 := bc BK125.out 4 rfl; have hfz15_0 := bF BK125.out 0; have hfz15_1 := bF BK125.out 1; have hfz15_2 := bF BK125.out 2; have hfz15_3 := bF BK125.out 3; have hfz15_4 := bF BK125.out 4; have hcz16_0 := bc BK126.out 0 rfl; have hcz16_1 := bc BK126.out 1 rfl; have hcz16_2 := bc BK126.out 2 rfl; have hcz16_3 := bc BK126.out 3 rfl; have hcz16_4 := bc BK126.out 4 rfl; have hfz16_0 := bF BK126.out 0; have hfz16_1 := bF BK126.out 1; have hfz16_2 := bF BK126.out 2; have hfz16_3 := bF BK126.out 3; have hfz16_4 := bF BK126.out 4) | ((with_reducible refine gate_callee (f := 45) rfl ?_); refine goesL_ (some 9) rfl rfl Try.func45 (by kernel_rfl) rfl #[.slice A0_0 l0_0.length c0_0, .slice A1_0 l1_0.length c1_0] rfl (by (try simp only [List.map_toArray, List.map_cons, List.map_nil]); first | done | rfl | (simp only [List.length_drop, List.length_take]; rfl)) ?_; (with_reducible refine (serifref09_sameSpots.calls k _ _ l0_0 _ _ l1_0 true _ ?side1 ?side2 ?side3 ?side4 A3.out).mono ?_); (case side1 => repeat (first | exact (Kd.C_below HR0_0.out HB.out) | (with_reducible refine cA ?_ _) | (with_reducible refine cN ?_ _) | (with_reducible refine cD ?_))); (case side2 => exact HC0_0.out); (case side3 => repeat (first | exact (Kd.C_below HR1_0.out HB.out) | (with_reducible refine cA ?_ _) | (with_reducible refine cN ?_ _) | (with_reducible refine cD ?_))); (case side4 => exact HC1_0.out); rintro e w' ⟨rfl, ⟨nd, rfl⟩⟩; refine ⟨_, rfl, ?_⟩) | (go_at_call 45; (with_reducible refine (serifref09_sameSpots.calls k _ _ l0_1 _ _ l1_1 true _ ?side1 ?side2 ?side3 ?side4 A5.out).mono ?_); (case side1 => repeat (first | exact (Kd.C_below HR0_1.out (by with_reducible repeat first | exact HB.out | apply lN | apply lD | refine lS ?_ GE125.out | refine lS ?_ GE126.out)) | (with_reducible refine cA ?_ _) | (with_reducible refine cN ?_ _) | (with_reducible refine cD ?_))); (case side2 => exact HC0_1.out); (case side3 => repeat (first | exact (Kd.C_below HR1_1.out (by with_reducible repeat first | exact HB.out | apply lN | apply lD | refine lS ?_ GE125.out | refine lS ?_ GE126.out)) | (with_reducible refine cA ?_ _) | (with_reducible refine cN ?_ _) | (with_reducible refine cD ?_))); (case side4 => exact HC1_1.out); rintro e w' ⟨rfl, ⟨nd, rfl⟩⟩) | (go_at_call 46; (with_reducible refine (serifref09_sameBools.calls k _ _ l0_2 _ _ l1_2 true _ ?side1 ?side2 ?side3 ?side4 A7.out).mono ?_); (case side1 => repeat (first | exact (Kd.C_below HR0_2.out (by with_reducible repeat first | exact HB.out | apply lN | apply lD | refine lS ?_ GE125.out | refine lS ?_ GE126.out)) | (with_reducible refine cA ?_ _) | (with_reducible refine cN ?_ _) | (with_reducible refine cD ?_))); (case side2 => exact HC0_2.out); (case side3 => repeat (first | exact (Kd.C_below HR1_2.out (by with_reducible repeat first | exact HB.out | apply lN | apply lD | refine lS ?_ GE125.out | refine lS ?_ GE126.out)) | (with_reducible refine cA ?_ _) | (with_reducible refine cN ?_ _) | (with_reducible refine cD ?_))); (case side4 => exact HC1_2.out); rintro e w' ⟨rfl, ⟨nd, rfl⟩⟩) | (go_at_call 46; (with_reducible refine (serifref09_sameBools.calls k _ _ l0_3 _ _ l1_3 true _ ?side1 ?side2 ?side3 ?side4 A9.out).mono ?_); (case side1 => repeat (first | exact (Kd.C_below HR0_3.out (by with_reducible repeat first | exact HB.out | apply lN | apply lD | refine lS ?_ GE125.out | refine lS ?_ GE126.out)) | (with_reducible refine cA ?_ _) | (with_reducible refine cN ?_ _) | (with_reducible refine cD ?_))); (case side2 => exact HC0_3.out); (case side3 => repeat (first | exact (Kd.C_below HR1_3.out (by with_reducible repeat first | exact HB.out | apply lN | apply lD | refine lS ?_ GE125.out | refine lS ?_ GE126.out)) | (with_reducible refine cA ?_ _) | (with_reducible refine cN ?_ _) | (with_reducible refine cD ?_))); (case side4 => exact HC1_3.out); rintro e w' ⟨rfl, ⟨nd, rfl⟩⟩) | (go_at_call 35; (with_reducible refine (serifref02_SameInts.calls k _ _ l0_4 _ _ l1_4 t131 _ ?side1 ?side2 ?side3 ?side4 A11.out).mono ?_); (case side1 => repeat (first | exact (Kd.C_below HR0_4.out (by with_reducible repeat first | exact HB.out | apply lN | apply lD | refine lS ?_ GE125.out | refine lS ?_ GE126.out)) | (with_reducible refine cA ?_ _) | (with_reducible refine cN ?_ _) | (with_reducible refine cD ?_))); (case side2 => exact HC0_4.out); (case side3 => repeat (first | exact (Kd.C_below HR1_4.out (by with_reducible repeat first | exact HB.out | apply lN | apply lD | refine lS ?_ GE125.out | refine lS ?_ GE126.out)) | (with_reducible refine cA ?_ _) | (with_reducible refine cN ?_ _) | (with_reducible refine cD ?_))); (case side4 => exact HC1_4.out); rintro e w' ⟨rfl, ⟨nd, rfl⟩⟩))
     go_ret
     exact ⟨by first | rfl | (simp [errW_none, errW_some] <;> rfl) | (simp [*, errW_none, errW_some] <;> rfl), by with_reducible repeat first | exact HB.out | apply lN | apply lD | refine lS ?_ GE125.out | refine lS ?_ GE126.out⟩
    ·replace c10 := Bool.eq_false_iff.mpr c10
     subst c10; have H1 : (some false) = some r := by rw [if_neg (show ¬ (false = true) by decide)] at H; exact H
     clear H; have H := H1; clear H1; obtain rfl := Option.some.inj H
     go_enter Try.func19, Try.ntmps19
     go_wp2_with (first | ((with_reducible refine gate_dst (N := 2) rfl ?_); refine box_event ?hg (N := 2) ?hd (cs := #[.slice A0_0 l0_0.length c0_0, .slice A0_1 l0_1.length c0_1, .slice A0_2 l0_2.length c0_2, .slice A0_3 l0_3.length c0_3, .slice A0_4 l0_4.length c0_4]) (t := 30) ?hr ?_; (case hd => rfl); (case hg => rfl); (case hr => first | (go_simp; done) | (go_simp; rfl)); intro gb125 hg w17 hbox hb; have BK125 := aK (hbox); have GW125 := aK ((by rw [hg]; exact (lZ (by with_reducible repeat first | exact HB.out | apply lN | apply lD)) : w.heap.size ≤ gb125)); have GE125 := aK ((by rw [hg]; exact (lZ (by with_reducible repeat first | exact HB.out | apply lN | apply lD)) : w.heap.size ≤ gb125)); replace HB := aK (lT HB.out hb); clear hb hbox hg) | ((with_reducible refine gate_dst (N := 3) rfl ?_); refine box_event ?hg (N := 3) ?hd (cs := #[.slice A1_0 l1_0.length c1_0, .slice A1_1 l1_1.length c1_1, .slice A1_2 l1_2.length c1_2, .slice A1_3 l1_3.length c1_3, .slice A1_4 l1_4.length c1_4]) (t := 30) ?hr ?_; (case hd => rfl); (case hg => rfl); (case hr => first | (go_simp; done) | (go_simp; rfl)); intro gb126 hg w18 hbox hb; have BK126 := aK (hbox); have GW126 := aK ((by rw [hg]; exact (lZ (by with_reducible repeat first | exact HB.out | apply lN | apply lD | refine lS ?_ GE125.out)) : w.heap.size ≤ gb126)); have GE126 := aK ((by rw [hg]; exact (lZ (by with_reducible repeat first | exact HB.out | apply lN | apply lD | refine lS ?_ GE125.out)) : w.heap.size ≤ gb126)); have NB125_126 := aK ((by rw [hg]; exact Nat.ne_of_lt (blk_lt BK125.out) : gb125 ≠ gb126)); have NB126_125 := aK ((by rw [hg]; exact Nat.ne_of_gt (blk_lt BK125.out) : gb126 ≠ gb125)); replace BK125 := aK (bB BK125.out hb); replace HB := aK (lT (by with_reducible repeat first | exact HB.out | refine lS ?_ GE125.out) hb); clear hb hbox hg; have hnb19 := NB125_126.out; have hnc19 := NB126_125.out; have hcz20_0 := bc BK125.out 0 rfl; have hcz20_1 := bc BK125.out 1 rfl; have hcz20_2 := bc BK125.out 2 rfl; have hcz20_3 := bc BK125.out 3 rfl; have hcz20_4 := bc BK125.out 4 rfl; have hfz20_0 := bF BK125.out 0; have hfz20_1 := bF BK125.out 1; have hfz20_2 := bF BK125.out 2; have hfz20_3 := bF BK125.out 3; have hfz20_4 := bF BK125.out 4; have hcz21_0 := bc BK126.out 0 rfl; have hcz21_1 := bc BK126.out 1 rfl; have hcz21_2 := bc BK126.out 2 rfl; have hcz21_3 := bc BK126.out 3 rfl; have hcz21_4 := bc BK126.out 4 rfl; have hfz21_0 := bF BK126.out 0; have hfz21_1 := bF BK126.out 1; have hfz21_2 := bF BK126.out 2; have hfz21_3 := bF BK126.out 3; have hfz21_4 := bF BK126.out 4) | ((with_reducible refine gate_callee (f := 45) rfl ?_); refine goesL_ (some 9) rfl rfl Try.func45 (by kernel_rfl) rfl #[.slice A0_0 l0_0.length c0_0, .slice A1_0 l1_0.length c1_0] rfl (by (try simp only [List.map_toArray, List.map_cons, List.map_nil]); first | done | rfl | (simp only [List.length_drop, List.length_take]; rfl)) ?_; (with_reducible refine (serifref09_sameSpots.calls k _ _ l0_0 _ _ l1_0 true _ ?side1 ?side2 ?side3 ?side4 A3.out).mono ?_); (case side1 => repeat (first | exact (Kd.C_below HR0_0.out HB.out) | (with_reducible refine cA ?_ _) | (with_reducible refine cN ?_ _) | (with_reducible refine cD ?_))); (case side2 => exact HC0_0.out); (case side3 => repeat (first | exact (Kd.C_below HR1_0.out HB.out) | (with_reducible refine cA ?_ _) | (with_reducible refine cN ?_ _) | (with_reducible refine cD ?_))); (case side4 => exact HC1_0.out); rintro e w' ⟨rfl, ⟨nd, rfl⟩⟩; refine ⟨_, rfl, ?_⟩) | (go_at_call 45; (with_reducible refine (serifref09_sameSpots.calls k _ _ l0_1 _ _ l1_1 true _ ?side1 ?side2 ?side3 ?side4 A5.out).mono ?_); (case side1 => repeat (first | exact (Kd.C_below HR0_1.out (by with_reducible repeat first | exact HB.out | apply lN | apply lD | refine lS ?_ GE125.out | refine lS ?_ GE126.out)) | (with_reducible refine cA ?_ _) | (with_reducible refine cN ?_ _) | (with_reducible refine cD ?_))); (case side2 => exact HC0_1.out); (case side3 => repeat (first | exact (Kd.C_below HR1_1.out (by with_reducible repeat first | exact HB.out | apply lN | apply lD | refine lS ?_ GE125.out | refine lS ?_ GE126.out)) | (with_reducible refine cA ?_ _) | (with_reducible refine cN ?_ _) | (with_reducible refine cD ?_))); (case side4 => exact HC1_1.out); rintro e w' ⟨rfl, ⟨nd, rfl⟩⟩) | (go_at_call 46; (with_reducible refine (serifref09_sameBools.calls k _ _ l0_2 _ _ l1_2 true _ ?side1 ?side2 ?side3 ?side4 A7.out).mono ?_); (case side1 => repeat (first | exact (Kd.C_below HR0_2.out (by with_reducible repeat first | exact HB.out | apply lN | apply lD | refine lS ?_ GE125.out | refine lS ?_ GE126.out)) | (with_reducible refine cA ?_ _) | (with_reducible refine cN ?_ _) | (with_reducible refine cD ?_))); (case side2 => exact HC0_2.out); (case side3 => repeat (first | exact (Kd.C_below HR1_2.out (by with_reducible repeat first | exact HB.out | apply lN | apply lD | refine lS ?_ GE125.out | refine lS ?_ GE126.out)) | (with_reducible refine cA ?_ _) | (with_reducible refine cN ?_ _) | (with_reducible refine cD ?_))); (case side4 => exact HC1_2.out); rintro e w' ⟨rfl, ⟨nd, rfl⟩⟩) | (go_at_call 46; (with_reducible refine (serifref09_sameBools.calls k _ _ l0_3 _ _ l1_3 false _ ?side1 ?side2 ?side3 ?side4 A9.out).mono ?_); (case side1 => repeat (first | exact (Kd.C_below HR0_3.out (by with_reducible repeat first | exact HB.out | apply lN | apply lD | refine lS ?_ GE125.out | refine lS ?_ GE126.out)) | (with_reducible refine cA ?_ _) | (with_reducible refine cN ?_ _) | (with_reducible refine cD ?_))); (case side2 => exact HC0_3.out); (case side3 => repeat (first | exact (Kd.C_below HR1_3.out (by with_reducible repeat first | exact HB.out | apply lN | apply lD | refine lS ?_ GE125.out | refine lS ?_ GE126.out)) | (with_reducible refine cA ?_ _) | (with_reducible refine cN ?_ _) | (with_reducible refine cD ?_))); (case side4 => exact HC1_3.out); rintro e w' ⟨rfl, ⟨nd, rfl⟩⟩))
     go_ret
     exact ⟨by first | rfl | (simp [errW_none, errW_some] <;> rfl) | (simp [*, errW_none, errW_some] <;> rfl), by with_reducible repeat first | exact HB.out | apply lN | apply lD | refine lS ?_ GE125.out | refine lS ?_ GE126.out⟩
   ·replace c8 := Bool.eq_false_iff.mpr c8
    subst c8; have H1 : (some false) = some r := by rw [if_neg (show ¬ (false = true) by decide)] at H; exact H
    clear H; have H := H1; clear H1; obtain rfl := Option.some.inj H
    go_enter Try.func19, Try.ntmps19
    go_wp2_with (first | ((with_reducible refine gate_dst (N := 2) rfl ?_); refine box_event ?hg (N := 2) ?hd (cs := #[.slice A0_0 l0_0.length c0_0, .slice A0_1 l0_1.length c0_1, .slice A0_2 l0_2.length c0_2, .slice A0_3 l0_3.length c0_3, .slice A0_4 l0_4.length c0_4]) (t := 30) ?hr ?_; (case hd => rfl); (case hg => rfl); (case hr => first | (go_simp; done) | (go_simp; rfl)); intro gb125 hg w22 hbox hb; have BK125 := aK (hbox); have GW125 := aK ((by rw [hg]; exact (lZ (by with_reducible repeat first | exact HB.out | apply lN | apply lD)) : w.heap.size ≤ gb125)); have GE125 := aK ((by rw [hg]; exact (lZ (by with_reducible repeat first | exact HB.out | apply lN | apply lD)) : w.heap.size ≤ gb125)); replace HB := aK (lT HB.out hb); clear hb hbox hg) | ((with_reducible refine gate_dst (N := 3) rfl ?_); refine box_event ?hg (N := 3) ?hd (cs := #[.slice A1_0 l1_0.length c1_0, .slice A1_1 l1_1.length c1_1, .slice A1_2 l1_2.length c1_2, .slice A1_3 l1_3.length c1_3, .slice A1_4 l1_4.length c1_4]) (t := 30) ?hr ?_; (case hd => rfl); (case hg => rfl); (case hr => first | (go_simp; done) | (go_simp; rfl)); intro gb126 hg w23 hbox hb; have BK126 := aK (hbox); have GW126 := aK ((by rw [hg]; exact (lZ (by with_reducible repeat first | exact HB.out | apply lN | apply lD | refine lS ?_ GE125.out)) : w.heap.size ≤ gb126)); have GE126 := aK ((by rw [hg]; exact (lZ (by with_reducible repeat first | exact HB.out | apply lN | apply lD | refine lS ?_ GE125.out)) : w.heap.size ≤ gb126)); have NB125_126 := aK ((by rw [hg]; exact Nat.ne_of_lt (blk_lt BK125.out) : gb125 ≠ gb126)); have NB126_125 := aK ((by rw [hg]; exact Nat.ne_of_gt (blk_lt BK125.out) : gb126 ≠ gb125)); replace BK125 := aK (bB BK125.out hb); replace HB := aK (lT (by with_reducible repeat first | exact HB.out | refine lS ?_ GE125.out) hb); clear hb hbox hg; have hnb24 := NB125_126.out; have hnc24 := NB126_125.out; have hcz25_0 := bc BK125.out 0 rfl; have hcz25_1 := bc BK125.out 1 rfl; have hcz25_2 := bc BK125.out 2 rfl; have hcz25_3 := bc BK125.out 3 rfl; have hcz25_4 := bc BK125.out 4 rfl; have hfz25_0 := bF BK125.out 0; have hfz25_1 := bF BK125.out 1; have hfz25_2 := bF BK125.out 2; have hfz25_3 := bF BK125.out 3; have hfz25_4 := bF BK125.out 4; have hcz26_0 := bc BK126.out 0 rfl; have hcz26_1 := bc BK126.out 1 rfl; have hcz26_2 := bc BK126.out 2 rfl; have hcz26_3 := bc BK126.out 3 rfl; have hcz26_4 := bc BK126.out 4 rfl; have hfz26_0 := bF BK126.out 0; have hfz26_1 := bF BK126.out 1; have hfz26_2 := bF BK126.out 2; have hfz26_3 := bF BK126.out 3; have hfz26_4 := bF BK126.out 4) | ((with_reducible refine gate_callee (f := 45) rfl ?_); refine goesL_ (some 9) rfl rfl Try.func45 (by kernel_rfl) rfl #[.slice A0_0 l0_0.length c0_0, .slice A1_0 l1_0.length c1_0] rfl (by (try simp only [List.map_toArray, List.map_cons, List.map_nil]); first | done | rfl | (simp only [List.length_drop, List.length_take]; rfl)) ?_; (with_reducible refine (serifref09_sameSpots.calls k _ _ l0_0 _ _ l1_0 true _ ?side1 ?side2 ?side3 ?side4 A3.out).mono ?_); (case side1 => repeat (first | exact (Kd.C_below HR0_0.out HB.out) | (with_reducible refine cA ?_ _) | (with_reducible refine cN ?_ _) | (with_reducible refine cD ?_))); (case side2 => exact HC0_0.out); (case side3 => repeat (first | exact (Kd.C_below HR1_0.out HB.out) | (with_reducible refine cA ?_ _) | (with_reducible refine cN ?_ _) | (with_reducible refine cD ?_))); (case side4 => exact HC1_0.out); rintro e w' ⟨rfl, ⟨nd, rfl⟩⟩; refine ⟨_, rfl, ?_⟩) | (go_at_call 45; (with_reducible refine (serifref09_sameSpots.calls k _ _ l0_1 _ _ l1_1 true _ ?side1 ?side2 ?side3 ?side4 A5.out).mono ?_); (case side1 => repeat (first | exact (Kd.C_below HR0_1.out (by with_reducible repeat first | exact HB.out | apply lN | apply lD | refine lS ?_ GE125.out | refine lS ?_ GE126.out)) | (with_reducible refine cA ?_ _) | (with_reducible refine cN ?_ _) | (with_reducible refine cD ?_))); (case side2 => exact HC0_1.out); (case side3 => repeat (first | exact (Kd.C_below HR1_1.out (by with_reducible repeat first | exact HB.out | apply lN | apply lD | refine lS ?_ GE125.out | refine lS ?_ GE126.out)) | (with_reducible refine cA ?_ _) | (with_reducible refine cN ?_ _) | (with_reducible refine cD ?_))); (case side4 => exact HC1_1.out); rintro e w' ⟨rfl, ⟨nd, rfl⟩⟩) | (go_at_call 46; (with_reducible refine (serifref09_sameBools.calls k _ _ l0_2 _ _ l1_2 false _ ?side1 ?side2 ?side3 ?side4 A7.out).mono ?_); (case side1 => repeat (first | exact (Kd.C_below HR0_2.out (by with_reducible repeat first | exact HB.out | apply lN | apply lD | refine lS ?_ GE125.out | refine lS ?_ GE126.out)) | (with_reducible refine cA ?_ _) | (with_reducible refine cN ?_ _) | (with_reducible refine cD ?_))); (case side2 => exact HC0_2.out); (case side3 => repeat (first | exact (Kd.C_below HR1_2.out (by with_reducible repeat first | exact HB.out | apply lN | apply lD | refine lS ?_ GE125.out | refine lS ?_ GE126.out)) | (with_reducible refine cA ?_ _) | (with_reducible refine cN ?_ _) | (with_reducible refine cD ?_))); (case side4 => exact HC1_2.out); rintro e w' ⟨rfl, ⟨nd, rfl⟩⟩))
    go_ret
    exact ⟨by first | rfl | (simp [errW_none, errW_some] <;> rfl) | (simp [*, errW_none, errW_some] <;> rfl), by with_reducible repeat first | exact HB.out | apply lN | apply lD | refine lS ?_ GE125.out | refine lS ?_ GE126.out⟩
  ·replace c6 := Bool.eq_false_iff.mpr c6
   subst c6; have H1 : (some false) = some r := by rw [if_neg (show ¬ (false = true) by decide)] at H; exact H
   clear H; have H := H1; clear H1; obtain rfl := Option.some.inj H
   go_enter Try.func19, Try.ntmps19
   go_wp2_with (first | ((with_reducible refine gate_dst (N := 2) rfl ?_); refine box_event ?hg (N := 2) ?hd (cs := #[.slice A0_0 l0_0.length c0_0, .slice A0_1 l0_1.length c0_1, .slice A0_2 l0_2.length c0_2, .slice A0_3 l0_3.length c0_3, .slice A0_4 l0_4.length c0_4]) (t := 30) ?hr ?_; (case hd => rfl); (case hg => rfl); (case hr => first | (go_simp; done) | (go_simp; rfl)); intro gb125 hg w27 hbox hb; have BK125 := aK (hbox); have GW125 := aK ((by rw [hg]; exact (lZ (by with_reducible repeat first | exact HB.out | apply lN | apply lD)) : w.heap.size ≤ gb125)); have GE125 := aK ((by rw [hg]; exact (lZ (by with_reducible repeat first | exact HB.out | apply lN | apply lD)) : w.heap.size ≤ gb125)); replace HB := aK (lT HB.out hb); clear hb hbox hg) | ((with_reducible refine gate_dst (N := 3) rfl ?_); refine box_event ?hg (N := 3) ?hd (cs := #[.slice A1_0 l1_0.length c1_0, .slice A1_1 l1_1.length c1_1, .slice A1_2 l1_2.length c1_2, .slice A1_3 l1_3.length c1_3, .slice A1_4 l1_4.length c1_4]) (t := 30) ?hr ?_; (case hd => rfl); (case hg => rfl); (case hr => first | (go_simp; done) | (go_simp; rfl)); intro gb126 hg w28 hbox hb; have BK126 := aK (hbox); have GW126 := aK ((by rw [hg]; exact (lZ (by with_reducible repeat first | exact HB.out | apply lN | apply lD | refine lS ?_ GE125.out)) : w.heap.size ≤ gb126)); have GE126 := aK ((by rw [hg]; exact (lZ (by with_reducible repeat first | exact HB.out | apply lN | apply lD | refine lS ?_ GE125.out)) : w.heap.size ≤ gb126)); have NB125_126 := aK ((by rw [hg]; exact Nat.ne_of_lt (blk_lt BK125.out) : gb125 ≠ gb126)); have NB126_125 := aK ((by rw [hg]; exact Nat.ne_of_gt (blk_lt BK125.out) : gb126 ≠ gb125)); replace BK125 := aK (bB BK125.out hb); replace HB := aK (lT (by with_reducible repeat first | exact HB.out | refine lS ?_ GE125.out) hb); clear hb hbox hg; have hnb29 := NB125_126.out; have hnc29 := NB126_125.out; have hcz30_0 := bc BK125.out 0 rfl; have hcz30_1 := bc BK125.out 1 rfl; have hcz30_2 := bc BK125.out 2 rfl; have hcz30_3 := bc BK125.out 3 rfl; have hcz30_4 := bc BK125.out 4 rfl; have hfz30_0 := bF BK125.out 0; have hfz30_1 := bF BK125.out 1; have hfz30_2 := bF BK125.out 2; have hfz30_3 := bF BK125.out 3; have hfz30_4 := bF BK125.out 4; have hcz31_0 := bc BK126.out 0 rfl; have hcz31_1 := bc BK126.out 1 rfl; have hcz31_2 := bc BK126.out 2 rfl; have hcz31_3 := bc BK126.out 3 rfl; have hcz31_4 := bc BK126.out 4 rfl; have hfz31_0 := bF BK126.out 0; have hfz31_1 := bF BK126.out 1; have hfz31_2 := bF BK126.out 2; have hfz31_3 := bF BK126.out 3; have hfz31_4 := bF BK126.out 4) | ((with_reducible refine gate_callee (f := 45) rfl ?_); refine goesL_ (some 9) rfl rfl Try.func45 (by kernel_rfl) rfl #[.slice A0_0 l0_0.length c0_0, .slice A1_0 l1_0.length c1_0] rfl (by (try simp only [List.map_toArray, List.map_cons, List.map_nil]); first | done | rfl | (simp only [List.length_drop, List.length_take]; rfl)) ?_; (with_reducible refine (serifref09_sameSpots.calls k _ _ l0_0 _ _ l1_0 true _ ?side1 ?side2 ?side3 ?side4 A3.out).mono ?_); (case side1 => repeat (first | exact (Kd.C_below HR0_0.out HB.out) | (with_reducible refine cA ?_ _) | (with_reducible refine cN ?_ _) | (with_reducible refine cD ?_))); (case side2 => exact HC0_0.out); (case side3 => repeat (first | exact (Kd.C_below HR1_0.out HB.out) | (with_reducible refine cA ?_ _) | (with_reducible refine cN ?_ _) | (with_reducible refine cD ?_))); (case side4 => exact HC1_0.out); rintro e w' ⟨rfl, ⟨nd, rfl⟩⟩; refine ⟨_, rfl, ?_⟩) | (go_at_call 45; (with_reducible refine (serifref09_sameSpots.calls k _ _ l0_1 _ _ l1_1 false _ ?side1 ?side2 ?side3 ?side4 A5.out).mono ?_); (case side1 => repeat (first | exact (Kd.C_below HR0_1.out (by with_reducible repeat first | exact HB.out | apply lN | apply lD | refine lS ?_ GE125.out | refine lS ?_ GE126.out)) | (with_reducible refine cA ?_ _) | (with_reducible refine cN ?_ _) | (with_reducible refine cD ?_))); (case side2 => exact HC0_1.out); (case side3 => repeat (first | exact (Kd.C_below HR1_1.out (by with_reducible repeat first | exact HB.out | apply lN | apply lD | refine lS ?_ GE125.out | refine lS ?_ GE126.out)) | (with_reducible refine cA ?_ _) | (with_reducible refine cN ?_ _) | (with_reducible refine cD ?_))); (case side4 => exact HC1_1.out); rintro e w' ⟨rfl, ⟨nd, rfl⟩⟩))
   go_ret
   exact ⟨by first | rfl | (simp [errW_none, errW_some] <;> rfl) | (simp [*, errW_none, errW_some] <;> rfl), by with_reducible repeat first | exact HB.out | apply lN | apply lD | refine lS ?_ GE125.out | refine lS ?_ GE126.out⟩
 ·replace c4 := Bool.eq_false_iff.mpr c4
  subst c4; have H1 : (some false) = some r := by rw [if_neg (show ¬ (false = true) by decide)] at H; exact H
  clear H; have H := H1; clear H1; obtain rfl := Option.some.inj H
  go_enter Try.func19, Try.ntmps19
  go_wp2_with (first | ((with_reducible refine gate_dst (N := 2) rfl ?_); refine box_event ?hg (N := 2) ?hd (cs := #[.slice A0_0 l0_0.length c0_0, .slice A0_1 l0_1.length c0_1, .slice A0_2 l0_2.length c0_2, .slice A0_3 l0_3.length c0_3, .slice A0_4 l0_4.length c0_4]) (t := 30) ?hr ?_; (case hd => rfl); (case hg => rfl); (case hr => first | (go_simp; done) | (go_simp; rfl)); intro gb125 hg w32 hbox hb; have BK125 := aK (hbox); have GW125 := aK ((by rw [hg]; exact (lZ (by with_reducible repeat first | exact HB.out | apply lN | apply lD)) : w.heap.size ≤ gb125)); have GE125 := aK ((by rw [hg]; exact (lZ (by with_reducible repeat first | exact HB.out | apply lN | apply lD)) : w.heap.size ≤ gb125)); replace HB := aK (lT HB.out hb); clear hb hbox hg) | ((with_reducible refine gate_dst (N := 3) rfl ?_); refine box_event ?hg (N := 3) ?hd (cs := #[.slice A1_0 l1_0.length c1_0, .slice A1_1 l1_1.length c1_1, .slice A1_2 l1_2.length c1_2, .slice A1_3 l1_3.length c1_3, .slice A1_4 l1_4.length c1_4]) (t := 30) ?hr ?_; (case hd => rfl); (case hg => rfl); (case hr => first | (go_simp; done) | (go_simp; rfl)); intro gb126 hg w33 hbox hb; have BK126 := aK (hbox); have GW126 := aK ((by rw [hg]; exact (lZ (by with_reducible repeat first | exact HB.out | apply lN | apply lD | refine lS ?_ GE125.out)) : w.heap.size ≤ gb126)); have GE126 := aK ((by rw [hg]; exact (lZ (by with_reducible repeat first | exact HB.out | apply lN | apply lD | refine lS ?_ GE125.out)) : w.heap.size ≤ gb126)); have NB125_126 := aK ((by rw [hg]; exact Nat.ne_of_lt (blk_lt BK125.out) : gb125 ≠ gb126)); have NB126_125 := aK ((by rw [hg]; exact Nat.ne_of_gt (blk_lt BK125.out) : gb126 ≠ gb125)); replace BK125 := aK (bB BK125.out hb); replace HB := aK (lT (by with_reducible repeat first | exact HB.out | refine lS ?_ GE125.out) hb); clear hb hbox hg; have hnb34 := NB125_126.out; have hnc34 := NB126_125.out; have hcz35_0 := bc BK125.out 0 rfl; have hcz35_1 := bc BK125.out 1 rfl; have hcz35_2 := bc BK125.out 2 rfl; have hcz35_3 := bc BK125.out 3 rfl; have hcz35_4 := bc BK125.out 4 rfl; have hfz35_0 := bF BK125.out 0; have hfz35_1 := bF BK125.out 1; have hfz35_2 := bF BK125.out 2; have hfz35_3 := bF BK125.out 3; have hfz35_4 := bF BK125.out 4; have hcz36_0 := bc BK126.out 0 rfl; have hcz36_1 := bc BK126.out 1 rfl; have hcz36_2 := bc BK126.out 2 rfl; have hcz36_3 := bc BK126.out 3 rfl; have hcz36_4 := bc BK126.out 4 rfl; have hfz36_0 := bF BK126.out 0; have hfz36_1 := bF BK126.out 1; have hfz36_2 := bF BK126.out 2; have hfz36_3 := bF BK126.out 3; have hfz36_4 := bF BK126.out 4) | ((with_reducible refine gate_callee (f := 45) rfl ?_); refine goesL_ (some 9) rfl rfl Try.func45 (by kernel_rfl) rfl #[.slice A0_0 l0_0.length c0_0, .slice A1_0 l1_0.length c1_0] rfl (by (try simp only [List.map_toArray, List.map_cons, List.map_nil]); first | done | rfl | (simp only [List.length_drop, List.length_take]; rfl)) ?_; (with_reducible refine (serifref09_sameSpots.calls k _ _ l0_0 _ _ l1_0 false _ ?side1 ?side2 ?side3 ?side4 A3.out).mono ?_); (case side1 => repeat (first | exact (Kd.C_below HR0_0.out HB.out) | (with_reducible refine cA ?_ _) | (with_reducible refine cN ?_ _) | (with_reducible refine cD ?_))); (case side2 => exact HC0_0.out); (case side3 => repeat (first | exact (Kd.C_below HR1_0.out HB.out) | (with_reducible refine cA ?_ _) | (with_reducible refine cN ?_ _) | (with_reducible refine cD ?_))); (case side4 => exact HC1_0.out); rintro e w' ⟨rfl, ⟨nd, rfl⟩⟩; refine ⟨_, rfl, ?_⟩))
  go_ret
  exact ⟨by first | rfl | (simp [errW_none, errW_some] <;> rfl) | (simp [*, errW_none, errW_some] <;> rfl), by with_reducible repeat first | exact HB.out | apply lN | apply lD | refine lS ?_ GE125.out | refine lS ?_ GE126.out⟩

/-! ### api_Spot_48: function 48 -/
def api_Spot_48.f (l0 : List (S43)) : Option ((List (S43))) := if 1 < 0 then (some ([] : List (S43))) else ((some (([] : List (S43)) : List (S43))).bind fun y132 => (if y132.length + l0.length < 8796093022208 then (some (y132 ++ l0)) else (none)))
set_option maxHeartbeats 8000000 in
set_option maxRecDepth 100000 in
theorem api_Spot_48.calls (A0 : Option Addr) (c0 : Nat) (l0 : List (S43)) (r : List (S43)) (w : World) (hr0 : Kd.C k43 w A0 l0.length l0) (hc0 : l0.length ≤ c0) (h : api_Spot_48.f l0 = some r) :
  Calls Try.prog 48 #[.slice A0 l0.length c0] w fun e w' => ∃ v0_ : Value, e = .returned (v0_) ∧ Kd.R k43 43 w' w.heap.size (fun _ => True) v0_ r ∧ Below w.heap.size w w' := by
 have HR0 := aK hr0; have HC0 := aK hc0; clear hr0 hc0; have HB := aK (Below.refl w.heap.size w); have H : (if 1 < 0 then (some ([] : List (S43))) else ((some (([] : List (S43)) : List (S43))).bind fun y132 => (if y132.length + l0.length < 8796093022208 then (some (y132 ++ l0)) else (none)))) = some r := h; clear h
 by_cases c2 : 1 < 0
 ·rw [if_pos c2] at H
  exact absurd c2 (by decide)
 ·rw [if_neg c2] at H
  have c2b0 : decide (1 < 0) = false := decide_eq_false c2; clear c2; obtain ⟨y132, hy132⟩ : ∃ y_ : List (S43), y_ = (([] : List (S43))) := ⟨_, rfl⟩; replace H : (if y132.length + l0.length < 8796093022208 then (some (y132 ++ l0)) else (none)) = some r := by first | (rw [hy132]; with_reducible exact H) | (have H2_ := (Option.bind_some _ _).symm.trans H; rw [hy132]; with_reducible exact H2_) | (have H2_ := (Option.bind_some _ _).symm.trans H; with_reducible exact H2_) | with_reducible exact H | (rw [hy132]; exact H) | exact H
  have Ny132 := aK hy132; clear hy132
  by_cases c3 : y132.length + l0.length < 8796093022208
  ·rw [if_pos c3] at H
   have LMc3 := aK c3; clear c3; obtain ⟨y135, hy135⟩ : ∃ y_ : List (S43), y_ = (y132 ++ l0) := ⟨_, rfl⟩; replace H : (some y135) = some r := by first | (rw [hy135]; with_reducible exact H) | (have H2_ := (Option.bind_some _ _).symm.trans H; rw [hy135]; with_reducible exact H2_) | (have H2_ := (Option.bind_some _ _).symm.trans H; with_reducible exact H2_) | with_reducible exact H | (rw [hy135]; exact H) | exact H
   have Ny135 := aK hy135; clear hy135; obtain rfl := Option.some.inj H; have hq_ : ∀ (w : World) (A : Option Addr) (n c : Nat), (binOp .eql 26 (.slice A n c) (.slice none 0 0)).run Try.prog w = .ok (.bool A.isNone) w := fun w A n c => Go.Lib.run_eql_slice_nil w 26 43 A n c 0 0 Try.underlying26
   cases A0 with
   | none =>
    have hl2 : l0 = [] := Go.Proofs.Ytneiaobhjjbedaa.nil_of_none HR0.out
    go_enter Try.func48, Try.ntmps48
    go_wp2
    go_ret
    exact ⟨_, rfl, by rw [Ny135.out, Ny132.out, hl2]; exact Kd.R_nil _ _ _ _ _, by with_reducible repeat first | exact HB.out | apply lN | apply lD⟩
   | some a0 =>
    go_enter Try.func48, Try.ntmps48
    go_wp2_with (first | ((with_reducible refine gate_dst (N := 5) rfl ?_); refine Kd.R_lit k43 _ 43 ?hg (N := 5) ?hd (xs := ([] : List (S43))) (inner := []) (ok := fun _ => True) (okp := fun _ => True) ?hr ?hp (fun _ hk => hk) trivial (Below.refl _ _) (Nat.le_refl _) (by simp) ?_; (case hd => rfl); (case hg => rfl); (case hr => first | (go_simp; done) | (go_simp; rfl)); (case hp => exact (Reps.none _ _)); intro v133 w4 ho5 hb hg_ hnew_; clear hg_ hnew_; (first | rw [← Ny132.out] at ho5 | (simp only [Int.reduceToNat] at ho5; rw [← Ny132.out] at ho5)); have HO134 := aK (Kd.R_lower ho5 (lZ (by with_reducible repeat first | exact HB.out | apply lN | apply lD))); replace HB := aK (lT HB.out hb); clear hb ho5) | ((with_reducible refine gate_builtin (b := .append) (xs := #[.tmp 5, .tmp 6]) rfl ?_); at_builtin; refine Kd.R_append_rows k43 (w0 := w) w.heap.size rfl (.tmp 5) (.tmp 6) 26 43 (.agg #[(.int .i64 0), (.int .i64 0)]) 16 rfl Try.underlying26 info43 rfl (by decide) (by omega) v133 y132 l0 _ _ _ (fun _ => True) (fun _ => False) rfl rfl ?aO ?aR (fun _ _ h => h) (fun _ h => h.elim) ?aF ?aB ?aS ?aL ?_; (case aR => repeat (first | exact (Kd.C_below HR0.out HB.out) | (with_reducible refine cA ?_ _) | (with_reducible refine cN ?_ _) | (with_reducible refine cD ?_))); (case aB => exact (by with_reducible repeat first | exact HB.out | apply lN | apply lD)); (case aF => exact (fun _ _ => trivial)); (case aO => exact HO134.out); (case aS => exact (lZ (by with_reducible repeat first | exact HB.out | apply lN | apply lD))); (case aL => have := LMc3.out; omega); intro v136 w6 ho hb hg hat; rw [← Ny135.out] at ho; have HO137 := aK (ho); replace HB := aK (hb); (try clear HO134); clear ho hb hg hat))
    go_ret
    exact ⟨_, by first | rfl | (simp [errW_none, errW_some] <;> rfl) | (simp [*, errW_none, errW_some] <;> rfl), by (with_reducible repeat (first | apply rA | apply rN | apply rD)); exact HO137.out, by with_reducible repeat first | exact HB.out | apply lN | apply lD⟩
  ·rw [if_neg c3] at H
   exact absurd H (by simp)

/-! ### gstate_New: function 23 -/
mutual
def gstate_New.l0 : Nat → List (List (S48)) → Int → Int → List (S43) → List Int → Option ((List (S43)) × (List (S43)) × List Bool × List Bool × List Int)
 | 0, _, _, _, _, _ => none
 | k + 1, x8, x9, x10, x140000, x140004 => if x10 < x9 then (if 0 ≤ x10 then (if x10 < (x8.length : Int) then (gstate_New.l1 k (rd_L4 x8 x10) x8 x9 x10 (rd_L4 x8 x10) ((rd_L4 x8 x10).length : Int) 0 x140000 x140004) else (none)) else (none)) else ((api_Spot_48.f x140000).bind fun t140 => (if 0 ≤ (x140000.length : Int) then (if ((x140000.length : Int) : Int).toNat ≤ 281474976710656 then (some (x140000, t140, (List.replicate ((x140000.length : Int) : Int).toNat false), (List.replicate ((x140000.length : Int) : Int).toNat false), x140004)) else (none)) else (none)))
def gstate_New.l1 : Nat → List (S48) → List (List (S48)) → Int → Int → List (S48) → Int → Int → List (S43) → List Int → Option ((List (S43)) × (List (S43)) × List Bool × List Bool × List Int)
 | 0, _, _, _, _, _, _, _, _, _ => none
 | k + 1, x5, x8, x9, x10, x14, x15, x16, x140000, x140004 => if x16 < x15 then (if 0 ≤ x16 then (if x16 < (x14.length : Int) then (if x140000.length < 8796093022208 then (gstate_New.l1 k x5 x8 x9 x10 x14 x15 (wrap64 (x16 + 1)) (x140000 ++ [(⟨(rd_T48 x14 x16).f0, (rd_T48 x14 x16).f1⟩ : S43)]) x140004) else (none)) else (none)) else (none)) else (if (x5.length : Int) > 0 then (if x140004.length < 17592186044416 then (gstate_New.l0 k x8 x9 (wrap64 (x10 + 1)) x140000 (x140004 ++ [wrap64 ((x140000.length : Int) - 1)])) else (none)) else (gstate_New.l0 k x8 x9 (wrap64 (x10 + 1)) x140000 x140004))
end
def gstate_New.f (k : Nat) (l0 : List (List (S48))) : Option ((List (S43)) × (List (S43)) × List Bool × List Bool × List Int) := gstate_New.l0 k l0 (l0.length : Int) 0 ([] : List (S43)) ([] : List Int)
theorem gstate_New.mono_l : ∀ k, (∀ y0 y1 y2 y3 y4, LeO (gstate_New.l0 k y0 y1 y2 y3 y4) (gstate_New.l0 (k + 1) y0 y1 y2 y3 y4)) ∧ (∀ y0 y1 y2 y3 y4 y5 y6 y7 y8, LeO (gstate_New.l1 k y0 y1 y2 y3 y4 y5 y6 y7 y8) (gstate_New.l1 (k + 1) y0 y1 y2 y3 y4 y5 y6 y7 y8))
 | 0 => ⟨fun _ _ _ _ _ r h => by simp [gstate_New.l0] at h, fun _ _ _ _ _ _ _ _ _ r h => by simp [gstate_New.l1] at h⟩
 | k + 1 => by
  obtain ⟨ih0, ih1⟩ := gstate_New.mono_l k
  refine ⟨?_, ?_⟩
  ·intro y0 y1 y2 y3 y4
   unfold gstate_New.l0
   repeat' first
   | (with_reducible exact ih0 _ _ _ _ _)
   | (with_reducible exact ih1 _ _ _ _ _ _ _ _ _)
   | (with_reducible exact LeO.refl _)
   | (with_reducible exact LeO.none _)
   | (with_reducible refine LeO.ite ?_ ?_)
   | (with_reducible refine LeO.bind ?_ (fun _ => ?_))
   | exact ih0 _ _ _ _ _
   | exact ih1 _ _ _ _ _ _ _ _ _
   | exact LeO.none _
   | refine LeO.ite ?_ ?_
   | refine LeO.bind ?_ (fun _ => ?_)
  ·intro y0 y1 y2 y3 y4 y5 y6 y7 y8
   unfold gstate_New.l1
   repeat' first
   | (with_reducible exact ih0 _ _ _ _ _)
   | (with_reducible exact ih1 _ _ _ _ _ _ _ _ _)
   | (with_reducible exact LeO.refl _)
   | (with_reducible exact LeO.none _)
   | (with_reducible refine LeO.ite ?_ ?_)
   | (with_reducible refine LeO.bind ?_ (fun _ => ?_))
   | exact ih0 _ _ _ _ _
   | exact ih1 _ _ _ _ _ _ _ _ _
   | exact LeO.none _
   | refine LeO.ite ?_ ?_
   | refine LeO.bind ?_ (fun _ => ?_)
theorem gstate_New.mono : ∀ a0 k, LeO (gstate_New.f k a0) (gstate_New.f (k + 1) a0) := by
 intro a0 k
 obtain ⟨ih0, ih1⟩ := gstate_New.mono_l k
 unfold gstate_New.f
 repeat' first
   | (with_reducible exact ih0 _ _ _ _ _)
   | (with_reducible exact ih1 _ _ _ _ _ _ _ _ _)
   | (with_reducible exact LeO.refl _)
   | (with_reducible exact LeO.none _)
   | (with_reducible refine LeO.ite ?_ ?_)
   | (with_reducible refine LeO.bind ?_ (fun _ => ?_))
   | exact ih0 _ _ _ _ _
   | exact ih1 _ _ _ _ _ _ _ _ _
   | exact LeO.none _
   | refine LeO.ite ?_ ?_
   | refine LeO.bind ?_ (fun _ => ?_)
set_option maxHeartbeats 8000000 in
set_option maxRecDepth 100000 in
theorem gstate_New.calls (k : Nat) (A0 : Option Addr) (c0 : Nat) (l0 : List (List (S48))) (r1 : List (S43)) (r2 : List (S43)) (r3 : List Bool) (r4 : List Bool) (r5 : List Int) (w : World) (hr0 : Kd.C (Kd.slice 48 k48) w A0 l0.length l0) (hc0 : l0.length ≤ c0) (h : gstate_New.f k l0 = some (r1, r2, r3, r4, r5)) :
  Calls Try.prog 23 #[.slice A0 l0.length c0] w fun e w' => ∃ v0_ v1_ v2_ v3_ v4_ : Value, e = .returned (.agg #[v0_, v1_, v2_, v3_, v4_]) ∧ Kd.R k43 43 w' w.heap.size (fun k_ => some k_ ≠ oB v1_) v0_ r1 ∧ Kd.R k43 43 w' w.heap.size (fun k_ => some k_ ≠ oB v0_) v1_ r2 ∧ Kd.R Kd.bool 4 w' w.heap.size (fun k_ => some k_ ≠ oB v3_) v2_ r3 ∧ Kd.R Kd.bool 4 w' w.heap.size (fun k_ => some k_ ≠ oB v2_) v3_ r4 ∧ Kd.R (Kd.int .i64) 3 w' w.heap.size (fun _ => True) v4_ r5 ∧ Below w.heap.size w w' := by
 have hu30 := Try.underlying30; have hu48 := Try.underlying48; have hu43 := Try.underlying43; have HR0 := aK hr0; have HC0 := aK hc0; clear hr0 hc0; have HB := aK (Below.refl w.heap.size w); have H : (gstate_New.l0 k l0 (l0.length : Int) 0 ([] : List (S43)) ([] : List Int)) = some (r1, r2, r3, r4, r5) := h; clear h; have H' := aK H; clear H
 go_enter Try.func23, Try.ntmps23
 go_wp2_with (first | ((with_reducible refine gate_dst (N := 2) rfl ?_); refine box_event ?hg (N := 2) ?hd (cs := #[.slice none 0 0, .slice none 0 0, .slice none 0 0, .slice none 0 0, .slice none 0 0]) (t := 30) ?hr ?_; (case hd => rfl); (case hg => rfl); (case hr => first | (go_simp; done) | (go_simp; rfl)); intro gb138 hg w2 hbox hb; have BK138 := aK (hbox); have GW138 := aK ((by rw [hg]; exact (lZ (by with_reducible repeat first | exact HB.out | apply lN | apply lD)) : w.heap.size ≤ gb138)); have GE138 := aK ((by rw [hg]; exact (lZ (by with_reducible repeat first | exact HB.out | apply lN | apply lD)) : w.heap.size ≤ gb138)); replace HB := aK (lT HB.out hb); clear hb hbox hg) | ((with_reducible refine gate_dst (N := 3) rfl ?_); refine box_event ?hg (N := 3) ?hd (cs := #[.slice none 0 0, .slice none 0 0, .slice none 0 0, .slice none 0 0, .slice none 0 0]) (t := 30) ?hr ?_; (case hd => rfl); (case hg => rfl); (case hr => first | (go_simp; done) | (go_simp; rfl)); intro gb139 hg w3 hbox hb; have BK139 := aK (hbox); have GW139 := aK ((by rw [hg]; exact (lZ (by with_reducible repeat first | exact HB.out | apply lN | apply lD | refine lS ?_ GE138.out)) : w.heap.size ≤ gb139)); have GE139 := aK ((by rw [hg]; exact (lZ (by with_reducible repeat first | exact HB.out | apply lN | apply lD | refine lS ?_ GE138.out)) : w.heap.size ≤ gb139)); have NB138_139 := aK ((by rw [hg]; exact Nat.ne_of_lt (blk_lt BK138.out) : gb138 ≠ gb139)); have NB139_138 := aK ((by rw [hg]; exact Nat.ne_of_gt (blk_lt BK138.out) : gb139 ≠ gb138)); replace BK138 := aK (bB BK138.out hb); replace HB := aK (lT (by with_reducible repeat first | exact HB.out | refine lS ?_ GE138.out) hb); clear hb hbox hg))
 go_loopg [10] k (fun kq v10 w' => ∃ (x10_1 : Int) (x140000_1 : List (S43)) (x140004_1 : List Int) (u140000 : Value) (u140004 : Value), v10 = .int .i64 x10_1 ∧ Aside0 (gstate_New.l0 kq l0 (l0.length : Int) x10_1 x140000_1 x140004_1 = some (r1, r2, r3, r4, r5)) ∧ Aside0 (kq ≤ k) ∧ Aside0 (Kd.R k43 43 w' w.heap.size (fun _ => True) u140000 x140000_1) ∧ Aside0 (Kd.R (Kd.int .i64) 3 w' w.heap.size (fun _ => True) u140004 x140004_1) ∧ Aside0 (w'.heap[gb138]? = some (.cells #[(.slice none 0 0), (.slice none 0 0), (.slice none 0 0), (.slice none 0 0), (.slice none 0 0)] 30 (0, 0))) ∧ Aside0 (w'.heap[gb139]? = some (.cells #[u140000, (.slice none 0 0), (.slice none 0 0), (.slice none 0 0), u140004] 30 (0, 0))) ∧ Aside0 (Below w.heap.size w w'))
 case atStart => exact ⟨(0), (([] : List (S43))), (([] : List Int)), (.slice none 0 0), (.slice none 0 0), (by first | rfl | (simp; done) | (simp [*]; done)), H', ⟨Nat.le_refl _⟩, ⟨by first | exact Kd.R_nil _ _ _ _ _ | exact Kd.N_nil _ _ _ _ _ | exact Kd.V_nil _ _ _ _ _ | exact Kd.Q_nil _ _ _ _ _ | exact Kd.S_nil _ _ _ _ _⟩, ⟨by first | exact Kd.R_nil _ _ _ _ _ | exact Kd.N_nil _ _ _ _ _ | exact Kd.V_nil _ _ _ _ _ | exact Kd.Q_nil _ _ _ _ _ | exact Kd.S_nil _ _ _ _ _⟩, ⟨BK138.out⟩, ⟨BK139.out⟩, ⟨by with_reducible repeat first | exact HB.out | apply lN | apply lD | refine lS ?_ GE138.out | refine lS ?_ GE139.out⟩⟩
 case round =>
  clear H'; (try clear c2); (try clear p2); obtain ⟨x10_1, x140000_1, x140004_1, u140000, u140004, rfl, HA, HK1, HO_140000, HO_140004, BK138, BK139, HB⟩ := hrel
  cases gk with
  | zero => exact absurd HA.out (by simp [gstate_New.l0])
  | succ k1 =>
   have H := HA.out; clear HA
   simp only [gstate_New.l0] at H
   by_cases c4 : x10_1 < (l0.length : Int)
   ·rw [if_pos c4] at H
    have c4b0 : decide (x10_1 < (l0.length : Int)) = true := decide_eq_true c4; clear c4
    by_cases c5 : 0 ≤ x10_1
    ·rw [if_pos c5] at H
     have c5b0 : decide (0 ≤ x10_1) = true := decide_eq_true c5; clear c5
     by_cases c6 : x10_1 < (l0.length : Int)
     ·rw [if_pos c6] at H
      have c6b0 : decide (x10_1 < (l0.length : Int)) = true := decide_eq_true c6; clear c6; have H' := aK H; clear H; have p149 : 0 ≤ (x10_1 : Int) := of_decide_eq_true (by first | (with_reducible assumption) | assumption); have q149 : x10_1 < (l0.length : Int) := of_decide_eq_true (by first | (with_reducible assumption) | assumption); obtain ⟨ad149, A149_0, c149_0, e149, hx149_0, hl149_0, hi149_0⟩ := at_L4 HR0.out x10_1 p149 q149
      cases e149
      replace hx149_0 := (HB.out.cell (World.block_lt_of_cell? w _ hx149_0)).trans hx149_0; have HR149_0 := aK hi149_0; have HC149_0 := aK hl149_0; clear hi149_0 hl149_0; replace p149 := eq_true p149; replace q149 := eq_true q149
      go_wp2
      go_loopg [16] k1 (fun kq v16 w' => ∃ (x16_2 : Int) (x140000_2 : List (S43)) (u140000 : Value), v16 = .int .i64 x16_2 ∧ Aside0 (gstate_New.l1 kq (rd_L4 l0 x10_1) l0 (l0.length : Int) x10_1 (rd_L4 l0 x10_1) ((rd_L4 l0 x10_1).length : Int) x16_2 x140000_2 x140004_1 = some (r1, r2, r3, r4, r5)) ∧ Aside0 (kq ≤ k1) ∧ Aside0 (Kd.R k43 43 w' w.heap.size (fun _ => True) u140000 x140000_2) ∧ Aside0 (Kd.R (Kd.int .i64) 3 w' w.heap.size (fun _ => True) u140004 x140004_1) ∧ Aside0 (w'.heap[gb138]? = some (.cells #[(.slice none 0 0), (.slice none 0 0), (.slice none 0 0), (.slice none 0 0), (.slice none 0 0)] 30 (0, 0))) ∧ Aside0 (w'.heap[gb139]? = some (.cells #[u140000, (.slice none 0 0), (.slice none 0 0), (.slice none 0 0), u140004] 30 (0, 0))) ∧ Aside0 (Below w.heap.size w w'))
      case atStart => exact ⟨(0), (x140000_1), (u140000), (by first | rfl | (simp; done) | (simp [*]; done)), H', ⟨Nat.le_refl _⟩, ⟨by (with_reducible repeat (first | apply rA | apply rN | apply rD)); exact HO_140000.out⟩, ⟨by (with_reducible repeat (first | apply rA | apply rN | apply rD)); exact HO_140004.out⟩, ⟨BK138.out⟩, ⟨BK139.out⟩, ⟨by with_reducible repeat first | exact HB.out | apply lN | apply lD | refine lS ?_ GE138.out | refine lS ?_ GE139.out⟩⟩
      case round =>
       clear H'; (try clear c1); (try clear p1); (try clear q1); (try clear hx1); (try clear c2); (try clear p2); (try clear c4); (try clear c4b0); (try clear c5); (try clear c5b0); (try clear c6); (try clear c6b0); (try clear hx149_0); (try clear p149); (try clear p2); (try clear q149); obtain ⟨x16_2, x140000_2, u140000, rfl, HA, HK2, HO_140000, HO_140004, BK138, BK139, HB⟩ := hrel
       cases gk with
       | zero => exact absurd HA.out (by simp [gstate_New.l1])
       | succ k2 =>
        have H := HA.out; clear HA
        simp only [gstate_New.l1] at H
        by_cases c7 : x16_2 < ((rd_L4 l0 x10_1).length : Int)
        ·rw [if_pos c7] at H
         have c7b0 : decide (x16_2 < ((rd_L4 l0 x10_1).length : Int)) = true := decide_eq_true c7; clear c7
         by_cases c8 : 0 ≤ x16_2
         ·rw [if_pos c8] at H
          have c8b0 : decide (0 ≤ x16_2) = true := decide_eq_true c8; clear c8
          by_cases c9 : x16_2 < ((rd_L4 l0 x10_1).length : Int)
          ·rw [if_pos c9] at H
           have c9b0 : decide (x16_2 < ((rd_L4 l0 x10_1).length : Int)) = true := decide_eq_true c9; clear c9
           by_cases c10 : x140000_2.length < 8796093022208
           ·rw [if_pos c10] at H
            have LMc10 := aK c10; clear c10; obtain ⟨y152, hy152⟩ : ∃ y_ : List (S43), y_ = (x140000_2 ++ [(⟨(rd_T48 (rd_L4 l0 x10_1) x16_2).f0, (rd_T48 (rd_L4 l0 x10_1) x16_2).f1⟩ : S43)]) := ⟨_, rfl⟩; replace H : (gstate_New.l1 k2 (rd_L4 l0 x10_1) l0 (l0.length : Int) x10_1 (rd_L4 l0 x10_1) ((rd_L4 l0 x10_1).length : Int) (wrap64 (x16_2 + 1)) y152 x140004_1) = some (r1, r2, r3, r4, r5) := by first | (rw [hy152]; with_reducible exact H) | (have H2_ := (Option.bind_some _ _).symm.trans H; rw [hy152]; with_reducible exact H2_) | (have H2_ := (Option.bind_some _ _).symm.trans H; with_reducible exact H2_) | with_reducible exact H | (rw [hy152]; exact H) | exact H
            have Ny152 := aK hy152; clear hy152; have H' := aK H; clear H; have p150 : 0 ≤ (x16_2 : Int) := of_decide_eq_true (by first | (with_reducible assumption) | assumption); have q150 : x16_2 < ((rd_L4 l0 x10_1).length : Int) := of_decide_eq_true (by first | (with_reducible assumption) | assumption); obtain ⟨ad150, e150, hx150_0, hx150_1, hx150_2⟩ := at_T48 HR149_0.out x16_2 p150 q150
            cases e150
            replace hx150_0 := (HB.out.cell (World.block_lt_of_cell? w _ hx150_0)).trans hx150_0; replace hx150_1 := (HB.out.cell (World.block_lt_of_cell? w _ hx150_1)).trans hx150_1; replace hx150_2 := (HB.out.cell (World.block_lt_of_cell? w _ hx150_2)).trans hx150_2; replace p150 := eq_true p150; replace q150 := eq_true q150
            go_wp2_with (first | ((with_reducible refine gate_dst (N := 7) rfl ?_); refine box_event ?hg (N := 7) ?hd (cs := #[.int .i64 0, .int .i64 0, .int .i64 0]) (t := 48) ?hr ?_; (case hd => rfl); (case hg => rfl); (case hr => first | (go_simp; done) | (go_simp; rfl)); intro gb151 hg w11 hbox hb; have BK151 := aK (hbox); have GW151 := aK ((by rw [hg]; exact (lZ (by with_reducible repeat first | exact HB.out | apply lN | apply lD | refine lS ?_ GE138.out | refine lS ?_ GE139.out)) : w.heap.size ≤ gb151)); have GE151 := aK ((by rw [hg]; exact (lZ (by with_reducible repeat first | exact HB.out | apply lN | apply lD | refine lS ?_ GE138.out | refine lS ?_ GE139.out)) : w.heap.size ≤ gb151)); have NB138_151 := aK ((by rw [hg]; exact Nat.ne_of_lt (blk_lt BK138.out) : gb138 ≠ gb151)); have NB151_138 := aK ((by rw [hg]; exact Nat.ne_of_gt (blk_lt BK138.out) : gb151 ≠ gb138)); have NB139_151 := aK ((by rw [hg]; exact Nat.ne_of_lt (blk_lt BK139.out) : gb139 ≠ gb151)); have NB151_139 := aK ((by rw [hg]; exact Nat.ne_of_gt (blk_lt BK139.out) : gb151 ≠ gb139)); replace HO_140000 := aK (rB HO_140000.out hb); replace HO_140004 := aK (rB HO_140004.out hb); replace BK138 := aK (bB BK138.out hb); replace BK139 := aK (bB BK139.out hb); replace HB := aK (lT (by with_reducible repeat first | exact HB.out | refine lS ?_ GE138.out | refine lS ?_ GE139.out) hb); clear hb hbox hg; have hnb12 := NB151_138.out; have hnc12 := NB138_151.out; have hnb13 := NB151_139.out; have hnc13 := NB139_151.out; have hcz14_0 := bc BK151.out 0 rfl; have hcz14_1 := bc BK151.out 1 rfl; have hcz14_2 := bc BK151.out 2 rfl; have hfz14_0 := bF BK151.out 0; have hfz14_1 := bF BK151.out 1; have hfz14_2 := bF BK151.out 2; have hnb15 := NB139_138.out; have hnc15 := NB138_139.out; have hcz16_0 := bc BK139.out 0 rfl; have hcz16_1 := bc BK139.out 1 rfl; have hcz16_2 := bc BK139.out 2 rfl; have hcz16_3 := bc BK139.out 3 rfl; have hcz16_4 := bc BK139.out 4 rfl; have hfz16_0 := bF BK139.out 0; have hfz16_1 := bF BK139.out 1; have hfz16_2 := bF BK139.out 2; have hfz16_3 := bF BK139.out 3; have hfz16_4 := bF BK139.out 4) | ((with_reducible refine gate_builtin (b := .append) (xs := #[.tmp 21, .tmp 27]) rfl ?_); at_builtin; refine Kd.R_append k43 (w0 := w) w.heap.size rfl (.tmp 21) (.tmp 27) 26 43 (.agg #[(.int .i64 0), (.int .i64 0)]) 16 rfl Try.underlying26 info43 rfl (by decide) (by omega) u140000 x140000_2 (⟨(rd_T48 (rd_L4 l0 x10_1) x16_2).f0, (rd_T48 (rd_L4 l0 x10_1) x16_2).f1⟩ : S43) [.int .i64 ((rd_T48 (rd_L4 l0 x10_1) x16_2).f0), .int .i64 ((rd_T48 (rd_L4 l0 x10_1) x16_2).f1)] (fun _ => True) (fun _ => False) rfl (by first | (go_simp; done) | (go_simp; rfl)) ?aP (fun _ hk => hk.elim) ?aF ?aO ?aB ?aS ?aL ?_; (case aP => exact k43_mkM _ _ _ (⟨(rd_T48 (rd_L4 l0 x10_1) x16_2).f0, (rd_T48 (rd_L4 l0 x10_1) x16_2).f1⟩ : S43)); (case aB => exact (by with_reducible repeat first | exact HB.out | apply lN | apply lD | refine lS ?_ GE138.out | refine lS ?_ GE139.out | refine lS ?_ GE151.out)); (case aF => exact (fun _ _ => trivial)); (case aO => exact (rM (st3 HO_140000.out BK151.out (by decide)) (fun _ hk => trivial))); (case aS => exact (lZ (by with_reducible repeat first | exact HB.out | apply lN | apply lD | refine lS ?_ GE138.out | refine lS ?_ GE139.out | refine lS ?_ GE151.out))); (case aL => have := LMc10.out; omega); intro v153 w17 ho hb hg hat; rw [← Ny152.out] at ho; have HO154 := aK (ho); replace HO_140004 := aK (Kd.R_over' (st3 HO_140004.out BK151.out (by decide)) (Kd.R_typed (st3 HO_140000.out BK151.out (by decide))) (by decide) hg); replace BK138 := aK (bG (bR (bR (bR BK138.out NB138_151.out _) NB138_151.out _) NB138_151.out _) hg (Kd.R_ne HO_140000.out BK138.out (by decide))); replace BK139 := aK (bG (bR (bR (bR BK139.out NB139_151.out _) NB139_151.out _) NB139_151.out _) hg (Kd.R_ne HO_140000.out BK139.out (by decide))); replace BK151 := aK (bG (bP (cs := #[.int .i64 ((rd_T48 (rd_L4 l0 x10_1) x16_2).f0), .int .i64 ((rd_T48 (rd_L4 l0 x10_1) x16_2).f1), .int .i64 0]) (bP (cs := #[.int .i64 ((rd_T48 (rd_L4 l0 x10_1) x16_2).f0), .int .i64 0, .int .i64 0]) (bP (cs := #[.int .i64 0, .int .i64 0, .int .i64 0]) BK151.out 0 _ rfl) 1 _ rfl) 2 _ rfl) hg (Kd.R_ne HO_140000.out BK151.out (by decide))); replace HB := aK (hb); (try clear HO_140000); clear ho hb hg hat; obtain ⟨Ao18, co18, eo18⟩ := Kd.R_slice HO154.out; subst eo18; have hcz19_0 := bc BK139.out 0 rfl; have hcz19_1 := bc BK139.out 1 rfl; have hcz19_2 := bc BK139.out 2 rfl; have hcz19_3 := bc BK139.out 3 rfl; have hcz19_4 := bc BK139.out 4 rfl; have hfz19_0 := bF BK139.out 0; have hfz19_1 := bF BK139.out 1; have hfz19_2 := bF BK139.out 2; have hfz19_3 := bF BK139.out 3; have hfz19_4 := bF BK139.out 4))
            go_roundg k2
            case measure => have := HK1.out; have := HK2.out; omega
            case rel => exact ⟨(wrap64 (x16_2 + 1)), (y152), (.slice Ao18 y152.length co18), (by first | rfl | (simp; done) | (simp [*]; done)), H', ⟨by have := HK1.out; have := HK2.out; omega⟩, ⟨rM (st1 HO154.out BK139.out (by decide)) (fun _ hk => trivial)⟩, ⟨rM (st1 HO_140004.out BK139.out (by decide)) (fun _ hk => trivial)⟩, ⟨(bR BK138.out NB138_139.out _)⟩, ⟨(bP (cs := #[u140000, .slice none 0 0, .slice none 0 0, .slice none 0 0, u140004]) BK139.out 0 _ rfl)⟩, ⟨by with_reducible repeat first | exact HB.out | apply lN | apply lD | refine lS ?_ GE138.out | refine lS ?_ GE139.out | refine lS ?_ GE151.out⟩⟩
           ·rw [if_neg c10] at H
            exact absurd H (by simp)
          ·rw [if_neg c9] at H
           exact absurd H (by simp)
         ·rw [if_neg c8] at H
          exact absurd H (by simp)
        ·rw [if_neg c7] at H
         have c7b0 : decide (x16_2 < ((rd_L4 l0 x10_1).length : Int)) = false := decide_eq_false c7; clear c7
         by_cases c20 : ((rd_L4 l0 x10_1).length : Int) > 0
         ·rw [if_pos c20] at H
          have c20b0 : decide (0 < ((rd_L4 l0 x10_1).length : Int)) = true := decide_eq_true c20; have c20b1 : decide (0 < (rd_L4 l0 x10_1).length) = true := decide_eq_true (by omega); clear c20
          by_cases c21 : x140004_1.length < 17592186044416
          ·rw [if_pos c21] at H
           have LMc21 := aK c21; clear c21; obtain ⟨y155, hy155⟩ : ∃ y_ : List Int, y_ = (x140004_1 ++ [wrap64 ((x140000_2.length : Int) - 1)]) := ⟨_, rfl⟩; replace H : (gstate_New.l0 k2 l0 (l0.length : Int) (wrap64 (x10_1 + 1)) x140000_2 y155) = some (r1, r2, r3, r4, r5) := by first | (rw [hy155]; with_reducible exact H) | (have H2_ := (Option.bind_some _ _).symm.trans H; rw [hy155]; with_reducible exact H2_) | (have H2_ := (Option.bind_some _ _).symm.trans H; with_reducible exact H2_) | with_reducible exact H | (rw [hy155]; exact H) | exact H
           have Ny155 := aK hy155; clear hy155; have H' := aK H; clear H; have hnb22 := NB139_138.out; have hnc22 := NB138_139.out; have hcz23_0 := bc BK139.out 0 rfl; have hcz23_1 := bc BK139.out 1 rfl; have hcz23_2 := bc BK139.out 2 rfl; have hcz23_3 := bc BK139.out 3 rfl; have hcz23_4 := bc BK139.out 4 rfl; have hfz23_0 := bF BK139.out 0; have hfz23_1 := bF BK139.out 1; have hfz23_2 := bF BK139.out 2; have hfz23_3 := bF BK139.out 3; have hfz23_4 := bF BK139.out 4; obtain ⟨Ao24, co24, eo24⟩ := Kd.R_slice HO_140000.out; subst eo24
           go_wp2_with (first | ((with_reducible refine gate_builtin (b := .append) (xs := #[.tmp 35, .tmp 40]) rfl ?_); at_builtin; refine Kd.R_append (Kd.int .i64) (w0 := w) w.heap.size rfl (.tmp 35) (.tmp 40) 28 3 (.int .i64 0) 8 rfl Try.underlying28 info3 rfl (by decide) (by omega) u140004 x140004_1 (wrap64 ((x140000_2.length : Int) - 1)) [.int .i64 (wrap64 ((x140000_2.length : Int) - 1))] (fun _ => True) (fun _ => False) rfl rfl ?aP (fun _ hk => hk.elim) ?aF ?aO ?aB ?aS ?aL ?_; (case aP => exact rfl); (case aB => exact (by with_reducible repeat first | exact HB.out | apply lN | apply lD | refine lS ?_ GE138.out | refine lS ?_ GE139.out)); (case aF => exact (fun _ _ => trivial)); (case aO => exact HO_140004.out); (case aS => exact (lZ (by with_reducible repeat first | exact HB.out | apply lN | apply lD | refine lS ?_ GE138.out | refine lS ?_ GE139.out))); (case aL => have := LMc21.out; omega); intro v156 w25 ho hb hg hat; rw [← Ny155.out] at ho; have HO157 := aK (ho); replace HO_140000 := aK (Kd.R_over' HO_140000.out (Kd.R_typed HO_140004.out) (by decide) hg); replace BK138 := aK (bG BK138.out hg (Kd.R_ne HO_140004.out BK138.out (by decide))); replace BK139 := aK (bG BK139.out hg (Kd.R_ne HO_140004.out BK139.out (by decide))); replace HB := aK (hb); (try clear HO_140004); clear ho hb hg hat; obtain ⟨Ao26, co26, eo26⟩ := Kd.R_slice HO157.out; subst eo26; have hcz27_0 := bc BK139.out 0 rfl; have hcz27_1 := bc BK139.out 1 rfl; have hcz27_2 := bc BK139.out 2 rfl; have hcz27_3 := bc BK139.out 3 rfl; have hcz27_4 := bc BK139.out 4 rfl; have hfz27_0 := bF BK139.out 0; have hfz27_1 := bF BK139.out 1; have hfz27_2 := bF BK139.out 2; have hfz27_3 := bF BK139.out 3; have hfz27_4 := bF BK139.out 4))
           go_roundg k2
           case measure => have := HK1.out; have := HK2.out; omega
           case rel => exact ⟨(wrap64 (x10_1 + 1)), (x140000_2), (y155), (.slice Ao24 x140000_2.length co24), (.slice Ao26 y155.length co26), (by first | rfl | (simp; done) | (simp [*]; done)), H', ⟨by have := HK1.out; have := HK2.out; omega⟩, ⟨rM (st1 HO_140000.out BK139.out (by decide)) (fun _ hk => trivial)⟩, ⟨rM (st1 HO157.out BK139.out (by decide)) (fun _ hk => trivial)⟩, ⟨(bR BK138.out NB138_139.out _)⟩, ⟨(bP (cs := #[.slice Ao24 x140000_2.length co24, .slice none 0 0, .slice none 0 0, .slice none 0 0, u140004]) BK139.out 4 _ rfl)⟩, ⟨by with_reducible repeat first | exact HB.out | apply lN | apply lD | refine lS ?_ GE138.out | refine lS ?_ GE139.out⟩⟩
          ·rw [if_neg c21] at H
           exact absurd H (by simp)
         ·rw [if_neg c20] at H
          have c20b0 : decide (0 < ((rd_L4 l0 x10_1).length : Int)) = false := decide_eq_false c20; have c20b1 : decide (0 < (rd_L4 l0 x10_1).length) = false := decide_eq_false (by omega); clear c20; have H' := aK H; clear H
          go_wp2
          go_roundg k2
          case measure => have := HK1.out; have := HK2.out; omega
          case rel => exact ⟨(wrap64 (x10_1 + 1)), (x140000_2), (x140004_1), (u140000), (u140004), (by first | rfl | (simp; done) | (simp [*]; done)), H', ⟨by have := HK1.out; have := HK2.out; omega⟩, ⟨by (with_reducible repeat (first | apply rA | apply rN | apply rD)); exact HO_140000.out⟩, ⟨by (with_reducible repeat (first | apply rA | apply rN | apply rD)); exact HO_140004.out⟩, ⟨BK138.out⟩, ⟨BK139.out⟩, ⟨by with_reducible repeat first | exact HB.out | apply lN | apply lD | refine lS ?_ GE138.out | refine lS ?_ GE139.out⟩⟩
     ·rw [if_neg c6] at H
      exact absurd H (by simp)
    ·rw [if_neg c5] at H
     exact absurd H (by simp)
   ·rw [if_neg c4] at H
    have c4b0 : decide (x10_1 < (l0.length : Int)) = false := decide_eq_false c4; clear c4; replace H := Option.bind_eq_some_iff.mp H; obtain ⟨t140, A280, H⟩ := H; replace H : (if 0 ≤ (x140000_1.length : Int) then (if ((x140000_1.length : Int) : Int).toNat ≤ 281474976710656 then (some (x140000_1, t140, (List.replicate ((x140000_1.length : Int) : Int).toNat false), (List.replicate ((x140000_1.length : Int) : Int).toNat false), x140004_1)) else (none)) else (none)) = some (r1, r2, r3, r4, r5) := H; have A28 := aK A280; clear A280
    by_cases c29 : 0 ≤ (x140000_1.length : Int)
    ·rw [if_pos c29] at H
     have c29b0 := eq_true c29; have c29b1 : decide (0 ≤ (x140000_1.length : Int)) = true := decide_eq_true c29; clear c29
     by_cases c30 : ((x140000_1.length : Int) : Int).toNat ≤ 281474976710656
     ·rw [if_pos c30] at H
      have c30b0 := eq_true c30; have c30b1 : decide (((x140000_1.length : Int) : Int).toNat ≤ 281474976710656) = true := decide_eq_true c30; clear c30; obtain ⟨y143, hy143⟩ : ∃ y_ : List Bool, y_ = (List.replicate ((x140000_1.length : Int) : Int).toNat false) := ⟨_, rfl⟩; replace H : (some (x140000_1, t140, y143, (List.replicate ((x140000_1.length : Int) : Int).toNat false), x140004_1)) = some (r1, r2, r3, r4, r5) := by first | (rw [hy143]; with_reducible exact H) | (have H2_ := (Option.bind_some _ _).symm.trans H; rw [hy143]; with_reducible exact H2_) | (have H2_ := (Option.bind_some _ _).symm.trans H; with_reducible exact H2_) | with_reducible exact H | (rw [hy143]; exact H) | exact H
      have Ny143 := aK hy143; clear hy143; obtain ⟨y146, hy146⟩ : ∃ y_ : List Bool, y_ = (List.replicate ((x140000_1.length : Int) : Int).toNat false) := ⟨_, rfl⟩; replace H : (some (x140000_1, t140, y143, y146, x140004_1)) = some (r1, r2, r3, r4, r5) := by first | (rw [hy146]; with_reducible exact H) | (have H2_ := (Option.bind_some _ _).symm.trans H; rw [hy146]; with_reducible exact H2_) | (have H2_ := (Option.bind_some _ _).symm.trans H; with_reducible exact H2_) | with_reducible exact H | (rw [hy146]; exact H) | exact H
      have Ny146 := aK hy146; clear hy146
      simp only [Option.some.injEq, Prod.mk.injEq] at H
      obtain ⟨rfl, rfl, rfl, rfl, rfl⟩ := H; have hnb31 := NB139_138.out; have hnc31 := NB138_139.out; have hcz32_0 := bc BK139.out 0 rfl; have hcz32_1 := bc BK139.out 1 rfl; have hcz32_2 := bc BK139.out 2 rfl; have hcz32_3 := bc BK139.out 3 rfl; have hcz32_4 := bc BK139.out 4 rfl; have hfz32_0 := bF BK139.out 0; have hfz32_1 := bF BK139.out 1; have hfz32_2 := bF BK139.out 2; have hfz32_3 := bF BK139.out 3; have hfz32_4 := bF BK139.out 4; obtain ⟨Ao33, co33, eo33⟩ := Kd.R_slice HO_140000.out; subst eo33
      go_wp2_with (first | ((with_reducible refine gate_callee (f := 48) rfl ?_); refine goesL_ (some 46) rfl rfl Try.func48 (by kernel_rfl) rfl #[.slice Ao33 x140000_1.length co33] rfl (by (try simp only [List.map_toArray, List.map_cons, List.map_nil]); first | done | rfl | (simp only [List.length_drop, List.length_take]; rfl)) ?_; (with_reducible refine (api_Spot_48.calls _ _ x140000_1 t140 _ ?side1 ?side2 A28.out).mono ?_); (case side1 => repeat (first | exact (rR HO_140000.out).2.2 | (with_reducible refine cA ?_ _) | (with_reducible refine cN ?_ _) | (with_reducible refine cD ?_))); (case side2 => exact (rR HO_140000.out).2.1); rintro e w34 ⟨v141, rfl, ho0, hb⟩; refine ⟨_, rfl, ?_⟩; have HO142 := aK (Kd.R_lower (Kd.R_new' ho0 (Kd.R_lt HO_140000.out)) (lZ (by with_reducible repeat first | exact HB.out | apply lN | apply lD | refine lS ?_ GE138.out | refine lS ?_ GE139.out))); replace HO_140000 := aK (Kd.R_elder' HO_140000.out (Kd.R_base ho0) hb); replace HO_140004 := aK (rB HO_140004.out hb); replace BK138 := aK (bB BK138.out hb); replace BK139 := aK (bB BK139.out hb); replace HB := aK (lT (by with_reducible repeat first | exact HB.out | refine lS ?_ GE138.out | refine lS ?_ GE139.out) hb); (try clear hb); (try clear hb2); (try clear hk); (try clear hi); (try clear ho0); obtain ⟨Ao35, co35, eo35⟩ := Kd.R_slice HO142.out; subst eo35; have hcz36_0 := bc BK139.out 0 rfl; have hcz36_1 := bc BK139.out 1 rfl; have hcz36_2 := bc BK139.out 2 rfl; have hcz36_3 := bc BK139.out 3 rfl; have hcz36_4 := bc BK139.out 4 rfl; have hfz36_0 := bF BK139.out 0; have hfz36_1 := bF BK139.out 1; have hfz36_2 := bF BK139.out 2; have hfz36_3 := bF BK139.out 3; have hfz36_4 := bF BK139.out 4) | ((with_reducible refine gate_dst (N := 51) rfl ?_); refine Kd.R_make Kd.bool _ 4 rfl (N := 51) rfl 27 _ _ rfl (x140000_1.length : Int) rfl rfl Try.underlying27 (.bool false) 1 info4 rfl (by decide) (by omega) false (ok := fun _ => True) (okp := fun _ => True) rfl (fun _ hk => hk) trivial (of_decide_eq_true (by first | (with_reducible assumption) | assumption)) (Nat.le_trans (Nat.mul_le_mul_right _ (of_decide_eq_true (by first | (with_reducible assumption) | assumption) : (x140000_1.length : Int).toNat ≤ 281474976710656)) (by omega)) (Below.refl _ _) (Nat.le_refl _) ?_; intro v144 w37 ho38 hb hg_ hnew_; clear hg_ hnew_; (first | rw [← Ny143.out] at ho38 | (simp only [Int.reduceToNat] at ho38; rw [← Ny143.out] at ho38)); have HO145 := aK (Kd.R_lower ho38 (lZ (by with_reducible repeat first | exact HB.out | apply lN | apply lD | refine lS ?_ GE138.out | refine lS ?_ GE139.out))); replace HO_140000 := aK (rB (st1 HO_140000.out BK139.out (by decide)) hb); replace HO_140004 := aK (rB (st1 HO_140004.out BK139.out (by decide)) hb); replace HO142 := aK (rB (st1 HO142.out BK139.out (by decide)) hb); replace BK138 := aK (bB (bR BK138.out NB138_139.out _) hb); replace BK139 := aK (bB (bP (cs := #[.slice Ao33 x140000_1.length co33, .slice none 0 0, .slice none 0 0, .slice none 0 0, u140004]) BK139.out 1 _ rfl) hb); replace HB := aK (lT (by with_reducible repeat first | exact HB.out | refine lS ?_ GE138.out | refine lS ?_ GE139.out) hb); clear hb ho38; obtain ⟨Ao39, co39, eo39⟩ := Kd.R_slice HO145.out; subst eo39; have hcz40_0 := bc BK139.out 0 rfl; have hcz40_1 := bc BK139.out 1 rfl; have hcz40_2 := bc BK139.out 2 rfl; have hcz40_3 := bc BK139.out 3 rfl; have hcz40_4 := bc BK139.out 4 rfl; have hfz40_0 := bF BK139.out 0; have hfz40_1 := bF BK139.out 1; have hfz40_2 := bF BK139.out 2; have hfz40_3 := bF BK139.out 3; have hfz40_4 := bF BK139.out 4) | ((with_reducible refine gate_dst (N := 56) rfl ?_); refine Kd.R_make Kd.bool _ 4 rfl (N := 56) rfl 27 _ _ rfl (x140000_1.length : Int) rfl rfl Try.underlying27 (.bool false) 1 info4 rfl (by decide) (by omega) false (ok := fun _ => True) (okp := fun _ => True) rfl (fun _ hk => hk) trivial (of_decide_eq_true (by first | (with_reducible assumption) | assumption)) (Nat.le_trans (Nat.mul_le_mul_right _ (of_decide_eq_true (by first | (with_reducible assumption) | assumption) : (x140000_1.length : Int).toNat ≤ 281474976710656)) (by omega)) (Below.refl _ _) (Nat.le_refl _) ?_; intro v147 w41 ho42 hb hg_ hnew_; clear hg_ hnew_; (first | rw [← Ny146.out] at ho42 | (simp only [Int.reduceToNat] at ho42; rw [← Ny146.out] at ho42)); have HO148 := aK (Kd.R_lower (Kd.R_new' ho42 (Kd.R_lt (st1 HO145.out BK139.out (by decide)))) (lZ (by with_reducible repeat first | exact HB.out | apply lN | apply lD | refine lS ?_ GE138.out | refine lS ?_ GE139.out))); replace HO_140000 := aK (rB (st1 HO_140000.out BK139.out (by decide)) hb); replace HO_140004 := aK (rB (st1 HO_140004.out BK139.out (by decide)) hb); replace HO142 := aK (rB (st1 HO142.out BK139.out (by decide)) hb); replace HO145 := aK (Kd.R_elder' (st1 HO145.out BK139.out (by decide)) (Kd.R_base ho42) hb); replace BK138 := aK (bB (bR BK138.out NB138_139.out _) hb); replace BK139 := aK (bB (bP (cs := #[.slice Ao33 x140000_1.length co33, .slice Ao35 t140.length co35, .slice none 0 0, .slice none 0 0, u140004]) BK139.out 2 _ rfl) hb); replace HB := aK (lT (by with_reducible repeat first | exact HB.out | refine lS ?_ GE138.out | refine lS ?_ GE139.out) hb); clear hb ho42; obtain ⟨Ao43, co43, eo43⟩ := Kd.R_slice HO148.out; subst eo43; have hcz44_0 := bc BK139.out 0 rfl; have hcz44_1 := bc BK139.out 1 rfl; have hcz44_2 := bc BK139.out 2 rfl; have hcz44_3 := bc BK139.out 3 rfl; have hcz44_4 := bc BK139.out 4 rfl; have hfz44_0 := bF BK139.out 0; have hfz44_1 := bF BK139.out 1; have hfz44_2 := bF BK139.out 2; have hfz44_3 := bF BK139.out 3; have hfz44_4 := bF BK139.out 4; have hcz45_0 := bc BK138.out 0 rfl; have hcz45_1 := bc BK138.out 1 rfl; have hcz45_2 := bc BK138.out 2 rfl; have hcz45_3 := bc BK138.out 3 rfl; have hcz45_4 := bc BK138.out 4 rfl; have hfz45_0 := bF BK138.out 0; have hfz45_1 := bF BK138.out 1; have hfz45_2 := bF BK138.out 2; have hfz45_3 := bF BK138.out 3; have hfz45_4 := bF BK138.out 4; obtain ⟨Ao46, co46, eo46⟩ := Kd.R_slice HO_140004.out; subst eo46))
      refine bodyPost_ret (results_cell_row rfl _ _ gb138 30 #[.slice Ao33 x140000_1.length co33, .slice Ao35 t140.length co35, .slice Ao39 y143.length co39, .slice Ao43 y146.length co43, .slice Ao46 x140004_1.length co46] (0, 0) _ rfl (by (with_reducible repeat (first | refine bN ?_ _ | refine bD ?_ | refine bA ?_ _)); refine bP (cs := #[.slice Ao33 x140000_1.length co33, .slice Ao35 t140.length co35, .slice Ao39 y143.length co39, .slice Ao43 y146.length co43, .slice none 0 0]) ?_ 4 _ rfl; (with_reducible repeat (first | refine bN ?_ _ | refine bD ?_ | refine bA ?_ _)); refine bP (cs := #[.slice Ao33 x140000_1.length co33, .slice Ao35 t140.length co35, .slice Ao39 y143.length co39, .slice none 0 0, .slice none 0 0]) ?_ 3 _ rfl; (with_reducible repeat (first | refine bN ?_ _ | refine bD ?_ | refine bA ?_ _)); refine bP (cs := #[.slice Ao33 x140000_1.length co33, .slice Ao35 t140.length co35, .slice none 0 0, .slice none 0 0, .slice none 0 0]) ?_ 2 _ rfl; (with_reducible repeat (first | refine bN ?_ _ | refine bD ?_ | refine bA ?_ _)); refine bP (cs := #[.slice Ao33 x140000_1.length co33, .slice none 0 0, .slice none 0 0, .slice none 0 0, .slice none 0 0]) ?_ 1 _ rfl; (with_reducible repeat (first | refine bN ?_ _ | refine bD ?_ | refine bA ?_ _)); refine bP (cs := #[.slice none 0 0, .slice none 0 0, .slice none 0 0, .slice none 0 0, .slice none 0 0]) ?_ 0 _ rfl; (with_reducible repeat (first | refine bN ?_ _ | refine bD ?_ | refine bA ?_ _)); refine bR ?_ NB138_139.out _; (with_reducible repeat (first | refine bN ?_ _ | refine bD ?_ | refine bA ?_ _)); exact BK138.out) Try.underlying30 rfl (by kernel_rfl)) rfl ?_
      exact ⟨_, _, _, _, _, by first | rfl | (simp [errW_none, errW_some] <;> rfl) | (simp [*, errW_none, errW_some] <;> rfl), by (with_reducible repeat (first | apply rA | apply rN | apply rD)); exact rM (rF (p := ⟨gb138, 4, none⟩) (rF (p := ⟨gb138, 3, none⟩) (rF (p := ⟨gb138, 2, none⟩) (rF (p := ⟨gb138, 1, none⟩) (rF (p := ⟨gb138, 0, none⟩) (rF (p := ⟨gb139, 3, none⟩) (rT (rT HO_140000.out BK139.out (by decide)) BK138.out (by decide)) (fun _ hk => hk.1.2) (.slice Ao43 y146.length co43)) (fun _ hk => hk.2) (.slice Ao33 x140000_1.length co33)) (fun _ hk => hk.2) (.slice Ao35 t140.length co35)) (fun _ hk => hk.2) (.slice Ao39 y143.length co39)) (fun _ hk => hk.2) (.slice Ao43 y146.length co43)) (fun _ hk => hk.2) (.slice Ao46 x140004_1.length co46)) (fun _ hk => hk.1.1.2), by (with_reducible repeat (first | apply rA | apply rN | apply rD)); exact rM (rF (p := ⟨gb138, 4, none⟩) (rF (p := ⟨gb138, 3, none⟩) (rF (p := ⟨gb138, 2, none⟩) (rF (p := ⟨gb138, 1, none⟩) (rF (p := ⟨gb138, 0, none⟩) (rF (p := ⟨gb139, 3, none⟩) (rT (rT HO142.out BK139.out (by decide)) BK138.out (by decide)) (fun _ hk => hk.1.2) (.slice Ao43 y146.length co43)) (fun _ hk => hk.2) (.slice Ao33 x140000_1.length co33)) (fun _ hk => hk.2) (.slice Ao35 t140.length co35)) (fun _ hk => hk.2) (.slice Ao39 y143.length co39)) (fun _ hk => hk.2) (.slice Ao43 y146.length co43)) (fun _ hk => hk.2) (.slice Ao46 x140004_1.length co46)) (fun _ hk => hk.1.1.2), by (with_reducible repeat (first | apply rA | apply rN | apply rD)); exact rM (rF (p := ⟨gb138, 4, none⟩) (rF (p := ⟨gb138, 3, none⟩) (rF (p := ⟨gb138, 2, none⟩) (rF (p := ⟨gb138, 1, none⟩) (rF (p := ⟨gb138, 0, none⟩) (rF (p := ⟨gb139, 3, none⟩) (rT (rT HO145.out BK139.out (by decide)) BK138.out (by decide)) (fun _ hk => hk.1.2) (.slice Ao43 y146.length co43)) (fun _ hk => hk.2) (.slice Ao33 x140000_1.length co33)) (fun _ hk => hk.2) (.slice Ao35 t140.length co35)) (fun _ hk => hk.2) (.slice Ao39 y143.length co39)) (fun _ hk => hk.2) (.slice Ao43 y146.length co43)) (fun _ hk => hk.2) (.slice Ao46 x140004_1.length co46)) (fun _ hk => hk.1.1.2), by (with_reducible repeat (first | apply rA | apply rN | apply rD)); exact rM (rF (p := ⟨gb138, 4, none⟩) (rF (p := ⟨gb138, 3, none⟩) (rF (p := ⟨gb138, 2, none⟩) (rF (p := ⟨gb138, 1, none⟩) (rF (p := ⟨gb138, 0, none⟩) (rF (p := ⟨gb139, 3, none⟩) (rT (rT HO148.out BK139.out (by decide)) BK138.out (by decide)) (fun _ hk => hk.1.2) (.slice Ao43 y146.length co43)) (fun _ hk => hk.2) (.slice Ao33 x140000_1.length co33)) (fun _ hk => hk.2) (.slice Ao35 t140.length co35)) (fun _ hk => hk.2) (.slice Ao39 y143.length co39)) (fun _ hk => hk.2) (.slice Ao43 y146.length co43)) (fun _ hk => hk.2) (.slice Ao46 x140004_1.length co46)) (fun _ hk => hk.1.1.2), by (with_reducible repeat (first | apply rA | apply rN | apply rD)); exact rM (rF (p := ⟨gb138, 4, none⟩) (rF (p := ⟨gb138, 3, none⟩) (rF (p := ⟨gb138, 2, none⟩) (rF (p := ⟨gb138, 1, none⟩) (rF (p := ⟨gb138, 0, none⟩) (rF (p := ⟨gb139, 3, none⟩) (rT (rT HO_140004.out BK139.out (by decide)) BK138.out (by decide)) (fun _ hk => hk.1.2) (.slice Ao43 y146.length co43)) (fun _ hk => hk.2) (.slice Ao33 x140000_1.length co33)) (fun _ hk => hk.2) (.slice Ao35 t140.length co35)) (fun _ hk => hk.2) (.slice Ao39 y143.length co39)) (fun _ hk => hk.2) (.slice Ao43 y146.length co43)) (fun _ hk => hk.2) (.slice Ao46 x140004_1.length co46)) (fun _ hk => trivial), by with_reducible repeat first | exact HB.out | apply lN | apply lD | refine lS ?_ GE138.out | refine lS ?_ GE139.out⟩
     ·rw [if_neg c30] at H
      exact absurd H (by simp)
    ·rw [if_neg c29] at H
     exact absurd H (by simp)

/-! ### serifref06_Copy: function 24 -/
def serifref06_Copy.l0 : Nat → List (List (S48)) → List (List (S48)) → Int → Int → Option ((List (List (S48))))
 | 0, _, _, _, _ => none
 | k + 1, x3, x8, x9, x10 => if x10 < x9 then (if 0 ≤ x10 then (if x10 < (x8.length : Int) then ((some (([] : List (S48)) : List (S48))).bind fun y162 => (if y162.length + (rd_L4 x8 x10).length < 5864062014805 then (if x3.length < 5864062014805 then (serifref06_Copy.l0 k (x3 ++ [(y162 ++ (rd_L4 x8 x10))]) x8 x9 (wrap64 (x10 + 1))) else (none)) else (none))) else (none)) else (none)) else (some x3)
def serifref06_Copy.f (k : Nat) (l0 : List (List (S48))) : Option ((List (List (S48)))) := serifref06_Copy.l0 k (([] : List (List (S48)))) l0 (l0.length : Int) 0
theorem serifref06_Copy.mono_l : ∀ k, (∀ y0 y1 y2 y3, LeO (serifref06_Copy.l0 k y0 y1 y2 y3) (serifref06_Copy.l0 (k + 1) y0 y1 y2 y3))
 | 0 => fun _ _ _ _ r h => by simp [serifref06_Copy.l0] at h
 | k + 1 => by
  have ih0 := serifref06_Copy.mono_l k
  ·intro y0 y1 y2 y3
   unfold serifref06_Copy.l0
   repeat' first
   | (with_reducible exact ih0 _ _ _ _)
   | (with_reducible exact LeO.refl _)
   | (with_reducible exact LeO.none _)
   | (with_reducible refine LeO.ite ?_ ?_)
   | (with_reducible refine LeO.bind ?_ (fun _ => ?_))
   | exact ih0 _ _ _ _
   | exact LeO.none _
   | refine LeO.ite ?_ ?_
   | refine LeO.bind ?_ (fun _ => ?_)
theorem serifref06_Copy.mono : ∀ a0 k, LeO (serifref06_Copy.f k a0) (serifref06_Copy.f (k + 1) a0) := by
 intro a0 k
 have ih0 := serifref06_Copy.mono_l k
 unfold serifref06_Copy.f
 repeat' first
   | (with_reducible exact ih0 _ _ _ _)
   | (with_reducible exact LeO.refl _)
   | (with_reducible exact LeO.none _)
   | (with_reducible refine LeO.ite ?_ ?_)
   | (with_reducible refine LeO.bind ?_ (fun _ => ?_))
   | exact ih0 _ _ _ _
   | exact LeO.none _
   | refine LeO.ite ?_ ?_
   | refine LeO.bind ?_ (fun _ => ?_)
set_option maxHeartbeats 8000000 in
set_option maxRecDepth 100000 in
theorem serifref06_Copy.calls (k : Nat) (A0 : Option Addr) (c0 : Nat) (l0 : List (List (S48))) (r : List (List (S48))) (w : World) (hr0 : Kd.C (Kd.slice 48 k48) w A0 l0.length l0) (hc0 : l0.length ≤ c0) (h : serifref06_Copy.f k l0 = some r) :
  Calls Try.prog 24 #[.slice A0 l0.length c0] w fun e w' => ∃ v0_ : Value, e = .returned (v0_) ∧ Kd.S (Kd.slice 48 k48) 46 w' w.heap.size (fun _ => True) v0_ r ∧ Below w.heap.size w w' := by
 have HR0 := aK hr0; have HC0 := aK hc0; clear hr0 hc0; have HB := aK (Below.refl w.heap.size w); have H : (serifref06_Copy.l0 k (([] : List (List (S48)))) l0 (l0.length : Int) 0) = some r := h; clear h; obtain ⟨y158, hy158⟩ : ∃ y_ : List (List (S48)), y_ = (([] : List (List (S48)))) := ⟨_, rfl⟩; replace H : (serifref06_Copy.l0 k y158 l0 (l0.length : Int) 0) = some r := by first | (rw [hy158]; with_reducible exact H) | (have H2_ := (Option.bind_some _ _).symm.trans H; rw [hy158]; with_reducible exact H2_) | (have H2_ := (Option.bind_some _ _).symm.trans H; with_reducible exact H2_) | with_reducible exact H | (rw [hy158]; exact H) | exact H
 have Ny158 := aK hy158; clear hy158; have H' := aK H; clear H
 go_enter Try.func24, Try.ntmps24
 go_wp2_with (first | ((with_reducible refine gate_dst (N := 7) rfl ?_); refine Kd.S_lit (Kd.slice 48 k48) _ 46 ?hg (N := 7) ?hd (xs := ([] : List (List (S48)))) (inner := []) (ok := fun _ => True) (okp := fun _ => True) ?hr ?hp (fun _ hk => hk) trivial (Below.refl _ _) (Nat.le_refl _) (by simp) ?_; (case hd => rfl); (case hg => rfl); (case hr => first | (go_simp; done) | (go_simp; rfl)); (case hp => exact (Reps.none _ _)); intro v159 w2 ho3 hb hg_ hnew_; clear hg_ hnew_; (first | rw [← Ny158.out] at ho3 | (simp only [Int.reduceToNat] at ho3; rw [← Ny158.out] at ho3)); have HO160 := aK (Kd.S_lower ho3 (lZ (by with_reducible repeat first | exact HB.out | apply lN | apply lD))); replace HB := aK (lT HB.out hb); clear hb ho3))
 go_loopg [3, 10] k (fun kq v3 v10 w' => ∃ (x3_1 : List (List (S48))) (x10_1 : Int), v10 = .int .i64 x10_1 ∧ Aside0 (serifref06_Copy.l0 kq x3_1 l0 (l0.length : Int) x10_1 = some r) ∧ Aside0 (kq ≤ k) ∧ Aside0 (Kd.S (Kd.slice 48 k48) 46 w' w.heap.size (fun _ => True) v3 x3_1) ∧ Aside0 (Below w.heap.size w w'))
 case atStart => exact ⟨(y158), (0), (by first | rfl | (simp; done) | (simp [*]; done)), H', ⟨Nat.le_refl _⟩, ⟨by (with_reducible repeat (first | apply Kd.S_alloc | apply Kd.S_drewN | apply Kd.S_drew)); exact HO160.out⟩, ⟨by with_reducible repeat first | exact HB.out | apply lN | apply lD⟩⟩
 case round =>
  clear H'; (try clear c2); (try clear p2); obtain ⟨x3_1, x10_1, rfl, HA, HK1, HO_3, HB⟩ := hrel
  cases gk with
  | zero => exact absurd HA.out (by simp [serifref06_Copy.l0])
  | succ k1 =>
   have H := HA.out; clear HA
   simp only [serifref06_Copy.l0] at H
   by_cases c4 : x10_1 < (l0.length : Int)
   ·rw [if_pos c4] at H
    have c4b0 : decide (x10_1 < (l0.length : Int)) = true := decide_eq_true c4; clear c4
    by_cases c5 : 0 ≤ x10_1
    ·rw [if_pos c5] at H
     have c5b0 : decide (0 ≤ x10_1) = true := decide_eq_true c5; clear c5
     by_cases c6 : x10_1 < (l0.length : Int)
     ·rw [if_pos c6] at H
      have c6b0 : decide (x10_1 < (l0.length : Int)) = true := decide_eq_true c6; clear c6; obtain ⟨y162, hy162⟩ : ∃ y_ : List (S48), y_ = (([] : List (S48))) := ⟨_, rfl⟩; replace H : (if y162.length + (rd_L4 l0 x10_1).length < 5864062014805 then (if x3_1.length < 5864062014805 then (serifref06_Copy.l0 k1 (x3_1 ++ [(y162 ++ (rd_L4 l0 x10_1))]) l0 (l0.length : Int) (wrap64 (x10_1 + 1))) else (none)) else (none)) = some r := by first | (rw [hy162]; with_reducible exact H) | (have H2_ := (Option.bind_some _ _).symm.trans H; rw [hy162]; with_reducible exact H2_) | (have H2_ := (Option.bind_some _ _).symm.trans H; with_reducible exact H2_) | with_reducible exact H | (rw [hy162]; exact H) | exact H
      have Ny162 := aK hy162; clear hy162
      by_cases c7 : y162.length + (rd_L4 l0 x10_1).length < 5864062014805
      ·rw [if_pos c7] at H
       have LMc7 := aK c7; clear c7; obtain ⟨y165, hy165⟩ : ∃ y_ : List (S48), y_ = (y162 ++ (rd_L4 l0 x10_1)) := ⟨_, rfl⟩; replace H : (if x3_1.length < 5864062014805 then (serifref06_Copy.l0 k1 (x3_1 ++ [y165]) l0 (l0.length : Int) (wrap64 (x10_1 + 1))) else (none)) = some r := by first | (rw [hy165]; with_reducible exact H) | (have H2_ := (Option.bind_some _ _).symm.trans H; rw [hy165]; with_reducible exact H2_) | (have H2_ := (Option.bind_some _ _).symm.trans H; with_reducible exact H2_) | with_reducible exact H | (rw [hy165]; exact H) | exact H
       have Ny165 := aK hy165; clear hy165
       by_cases c8 : x3_1.length < 5864062014805
       ·rw [if_pos c8] at H
        have LMc8 := aK c8; clear c8; obtain ⟨y168, hy168⟩ : ∃ y_ : List (List (S48)), y_ = (x3_1 ++ [y165]) := ⟨_, rfl⟩; replace H : (serifref06_Copy.l0 k1 y168 l0 (l0.length : Int) (wrap64 (x10_1 + 1))) = some r := by first | (rw [hy168]; with_reducible exact H) | (have H2_ := (Option.bind_some _ _).symm.trans H; rw [hy168]; with_reducible exact H2_) | (have H2_ := (Option.bind_some _ _).symm.trans H; with_reducible exact H2_) | with_reducible exact H | (rw [hy168]; exact H) | exact H
        have Ny168 := aK hy168; clear hy168; have H' := aK H; clear H; have p161 : 0 ≤ (x10_1 : Int) := of_decide_eq_true (by first | (with_reducible assumption) | assumption); have q161 : x10_1 < (l0.length : Int) := of_decide_eq_true (by first | (with_reducible assumption) | assumption); obtain ⟨ad161, A161_0, c161_0, e161, hx161_0, hl161_0, hi161_0⟩ := at_L4 HR0.out x10_1 p161 q161
        cases e161
        replace hx161_0 := (HB.out.cell (World.block_lt_of_cell? w _ hx161_0)).trans hx161_0; have HR161_0 := aK hi161_0; have HC161_0 := aK hl161_0; clear hi161_0 hl161_0; replace p161 := eq_true p161; replace q161 := eq_true q161
        go_wp2_with (first | ((with_reducible refine gate_dst (N := 14) rfl ?_); refine Kd.R_lit k48 _ 48 ?hg (N := 14) ?hd (xs := ([] : List (S48))) (inner := []) (ok := fun _ => True) (okp := fun _ => True) ?hr ?hp (fun _ hk => hk) trivial (Below.refl _ _) (Nat.le_refl _) (by simp) ?_; (case hd => rfl); (case hg => rfl); (case hr => first | (go_simp; done) | (go_simp; rfl)); (case hp => exact (Reps.none _ _)); intro v163 w9 ho10 hb hg_ hnew_; clear hg_ hnew_; (first | rw [← Ny162.out] at ho10 | (simp only [Int.reduceToNat] at ho10; rw [← Ny162.out] at ho10)); have HO164 := aK (Kd.R_lower ho10 (lZ (by with_reducible repeat first | exact HB.out | apply lN | apply lD))); replace HO_3 := aK (Kd.S_elder' HO_3.out (Kd.R_base ho10) hb); replace HB := aK (lT HB.out hb); clear hb ho10) | ((with_reducible refine gate_builtin (b := .append) (xs := #[.tmp 16, .tmp 17]) rfl ?_); at_builtin; refine Kd.R_append_rows k48 (w0 := w) w.heap.size rfl (.tmp 16) (.tmp 17) 46 48 (.agg #[(.int .i64 0), (.int .i64 0), (.int .i64 0)]) 24 rfl Try.underlying46 info48 rfl (by decide) (by omega) v163 y162 (rd_L4 l0 x10_1) _ _ _ (fun _ => True) (fun _ => False) rfl rfl ?aO ?aR (fun _ _ h => h) (fun _ h => h.elim) ?aF ?aB ?aS ?aL ?_; (case aR => repeat (first | exact (Kd.C_below HR161_0.out HB.out) | (with_reducible refine cA ?_ _) | (with_reducible refine cN ?_ _) | (with_reducible refine cD ?_))); (case aB => exact (by with_reducible repeat first | exact HB.out | apply lN | apply lD)); (case aF => exact (fun _ _ => trivial)); (case aO => exact HO164.out); (case aS => exact (lZ (by with_reducible repeat first | exact HB.out | apply lN | apply lD))); (case aL => have := LMc7.out; omega); intro v166 w11 ho hb hg hat; rw [← Ny165.out] at ho; have HO167 := aK (ho); replace HO_3 := aK (Kd.S_after (ok := (fun _ => True)) HO_3.out hg hat); replace HB := aK (hb); (try clear HO164); clear ho hb hg hat; obtain ⟨Ao13, co13, eo13⟩ := Kd.R_slice HO167.out; subst eo13) | ((with_reducible refine gate_builtin (b := .append) (xs := #[.tmp 15, .tmp 19]) rfl ?_); at_builtin; refine Kd.S_append (Kd.slice 48 k48) (w0 := w) w.heap.size rfl (.tmp 15) (.tmp 19) 50 46 (.slice none 0 0) 24 rfl Try.underlying50 info46 rfl (by decide) (by omega) u3 x3_1 y165 [.slice Ao13 y165.length co13] (fun _ => True) (fun k_ => some k_ = oB (.slice Ao13 y165.length co13)) rfl rfl ?aP (fun k_ hk_ => ((rM (ok' := fun k_ => ((fun _ => True)) k_ ∧ some k_ ≠ oB u3) (Kd.R_apart' (HO167.out) (Kd.S_typed HO_3.out) (by decide)) (fun k_ hk => ⟨trivial, hk.2⟩))).1 k_ hk_.symm) ?aF ?aO ?aB ?aS ?aL ?_; (case aP => exact Kd.M_row (rM (Kd.R_tight rfl (rM (ok' := fun k_ => ((fun _ => True)) k_ ∧ some k_ ≠ oB u3) (Kd.R_apart' (HO167.out) (Kd.S_typed HO_3.out) (by decide)) (fun k_ hk => ⟨trivial, hk.2⟩))) (fun _ h_ => h_))); (case aB => exact (by with_reducible repeat first | exact HB.out | apply lN | apply lD)); (case aF => exact (fun _ _ => trivial)); (case aO => exact (by (with_reducible repeat (first | apply Kd.S_alloc | apply Kd.S_drewN | apply Kd.S_drew)); exact Kd.S_mono HO_3.out (fun k_ hk => ⟨trivial, fun e_ => hk.2 e_⟩))); (case aS => exact (lZ (by with_reducible repeat first | exact HB.out | apply lN | apply lD))); (case aL => have := LMc8.out; omega); intro v169 w12 ho hb hg hat; rw [← Ny168.out] at ho; have HO170 := aK (ho); replace HB := aK (hb); (try clear HO167 HO_3); clear ho hb hg hat))
        go_roundg k1
        case measure => have := HK1.out; omega
        case rel => exact ⟨(y168), (wrap64 (x10_1 + 1)), (by first | rfl | (simp; done) | (simp [*]; done)), H', ⟨by have := HK1.out; omega⟩, ⟨by (with_reducible repeat (first | apply Kd.S_alloc | apply Kd.S_drewN | apply Kd.S_drew)); exact HO170.out⟩, ⟨by with_reducible repeat first | exact HB.out | apply lN | apply lD⟩⟩
       ·rw [if_neg c8] at H
        exact absurd H (by simp)
      ·rw [if_neg c7] at H
       exact absurd H (by simp)
     ·rw [if_neg c6] at H
      exact absurd H (by simp)
    ·rw [if_neg c5] at H
     exact absurd H (by simp)
   ·rw [if_neg c4] at H
    have c4b0 : decide (x10_1 < (l0.length : Int)) = false := decide_eq_false c4; clear c4; obtain rfl := Option.some.inj H
    go_wp2
    go_ret
    exact ⟨_, by first | rfl | (simp [errW_none, errW_some] <;> rfl) | (simp [*, errW_none, errW_some] <;> rfl), by (with_reducible repeat (first | apply Kd.S_alloc | apply Kd.S_drewN | apply Kd.S_drew)); exact HO_3.out, by with_reducible repeat first | exact HB.out | apply lN | apply lD⟩

end Go.Proofs.Ytneiaobhjjbedaa.PGstateZones
