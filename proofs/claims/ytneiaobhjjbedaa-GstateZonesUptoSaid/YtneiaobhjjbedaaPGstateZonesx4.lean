/- A part of the proof of the law GstateZones: plain functions and what the machine's calls of them come to; printed by wip/extprint.py out of the kit's printer and contracts of our own. No condition but an answer of the plain function. -/
import Derived.Test.YtneiaobhjjbedaaPGstateZonesx0
namespace Go.Proofs.Ytneiaobhjjbedaa.PGstateZones
open Go.RowKit Go.Proofs.YtneiaobhjjbedaaW.PrintWords Go.Proofs.YtneiaobhjjbedaaW.PrintLast Go.Proofs.YtneiaobhjjbedaaW.PrintMore
attribute [local go_sem] max2_int min2_int max_two min_two max_three min_three max_four min_four   -- for this text's walks alone
open Go.Value renaming ownBlock → oB
open Aside0 renaming mk → aK
open Go.Proofs.Ytneiaobhjjbedaa (st1 st2 st3 st5 st55 bc)
open Go.Proofs.YtneiaobhjjbedaaW.PrintWords renaming blk_drewN → bN, blk_drew → bD, blk_alloc → bA, below_alloc → lA, pw_below_drewN → lN, below_drew1 → lD, below_set → lS, blk_below → bB, blk_grown → bG, blk_cell → bC, blk_frozen → bF, blk_far → bR, blk_put → bP, below_size → lZ, below_step → lT
open Go.Proofs.YtneiaobhjjbedaaW.PrintWords.Kd renaming R_alloc → rA, R_drewN → rN, R_drew → rD, R_far → rF, R_mono → rM, R_below → rB, R_types → rT, R_grown → rG, C_alloc → cA, C_drewN → cN, C_drew → cD, R_reads' → rR
set_option linter.unusedVariables false
set_option linter.unusedSimpArgs false

/-! ### serifref09_New: function 25 -/
mutual
def serifref09_New.l0 : Nat → List (List (S48)) → Int → Int → List (S43) → List (S43) → List Bool → List Bool → List Int → Option ((List (S43)) × (List (S43)) × List Bool × List Bool × List Int)
 | 0, _, _, _, _, _, _, _, _ => none
 | k + 1, x9, x10, x11, x173000, x173001, x173002, x173003, x173004 => if x11 < x10 then (if 0 ≤ x11 then (if x11 < (x9.length : Int) then (serifref09_New.l1 k (rd_L4 x9 x11) x9 x10 x11 (rd_L4 x9 x11) ((rd_L4 x9 x11).length : Int) 0 x173000 x173001 x173002 x173003 x173004) else (none)) else (none)) else (some (x173000, x173001, x173002, x173003, x173004))
def serifref09_New.l1 : Nat → List (S48) → List (List (S48)) → Int → Int → List (S48) → Int → Int → List (S43) → List (S43) → List Bool → List Bool → List Int → Option ((List (S43)) × (List (S43)) × List Bool × List Bool × List Int)
 | 0, _, _, _, _, _, _, _, _, _, _, _, _ => none
 | k + 1, x5, x9, x10, x11, x15, x16, x17, x173000, x173001, x173002, x173003, x173004 => if x17 < x16 then (if 0 ≤ x17 then (if x17 < (x15.length : Int) then (if x173000.length < 8796093022208 then (if x173001.length < 8796093022208 then (if x173002.length < 140737488355328 then (if x173003.length < 140737488355328 then (serifref09_New.l1 k x5 x9 x10 x11 x15 x16 (wrap64 (x17 + 1)) (x173000 ++ [(⟨(rd_T48 x15 x17).f0, (rd_T48 x15 x17).f1⟩ : S43)]) (x173001 ++ [(⟨(rd_T48 x15 x17).f0, (rd_T48 x15 x17).f1⟩ : S43)]) (x173002 ++ [false]) (x173003 ++ [false]) x173004) else (none)) else (none)) else (none)) else (none)) else (none)) else (none)) else (if (x5.length : Int) > 0 then (if x173004.length < 17592186044416 then (serifref09_New.l0 k x9 x10 (wrap64 (x11 + 1)) x173000 x173001 x173002 x173003 (x173004 ++ [wrap64 ((x173000.length : Int) - 1)])) else (none)) else (serifref09_New.l0 k x9 x10 (wrap64 (x11 + 1)) x173000 x173001 x173002 x173003 x173004))
end
def serifref09_New.f (k : Nat) (l0 : List (List (S48))) : Option ((List (S43)) × (List (S43)) × List Bool × List Bool × List Int) := serifref09_New.l0 k l0 (l0.length : Int) 0 ([] : List (S43)) ([] : List (S43)) ([] : List Bool) ([] : List Bool) ([] : List Int)
theorem serifref09_New.mono_l : ∀ k, (∀ y0 y1 y2 y3 y4 y5 y6 y7, LeO (serifref09_New.l0 k y0 y1 y2 y3 y4 y5 y6 y7) (serifref09_New.l0 (k + 1) y0 y1 y2 y3 y4 y5 y6 y7)) ∧ (∀ y0 y1 y2 y3 y4 y5 y6 y7 y8 y9 y10 y11, LeO (serifref09_New.l1 k y0 y1 y2 y3 y4 y5 y6 y7 y8 y9 y10 y11) (serifref09_New.l1 (k + 1) y0 y1 y2 y3 y4 y5 y6 y7 y8 y9 y10 y11))
 | 0 => ⟨fun _ _ _ _ _ _ _ _ r h => by simp [serifref09_New.l0] at h, fun _ _ _ _ _ _ _ _ _ _ _ _ r h => by simp [serifref09_New.l1] at h⟩
 | k + 1 => by
  obtain ⟨ih0, ih1⟩ := serifref09_New.mono_l k
  refine ⟨?_, ?_⟩
  ·intro y0 y1 y2 y3 y4 y5 y6 y7
   unfold serifref09_New.l0
   repeat' first
   | (with_reducible exact ih0 _ _ _ _ _ _ _ _)
   | (with_reducible exact ih1 _ _ _ _ _ _ _ _ _ _ _ _)
   | (with_reducible exact LeO.refl _)
   | (with_reducible exact LeO.none _)
   | (with_reducible refine LeO.ite ?_ ?_)
   | (with_reducible refine LeO.bind ?_ (fun _ => ?_))
   | exact ih0 _ _ _ _ _ _ _ _
   | exact ih1 _ _ _ _ _ _ _ _ _ _ _ _
   | exact LeO.none _
   | refine LeO.ite ?_ ?_
   | refine LeO.bind ?_ (fun _ => ?_)
  ·intro y0 y1 y2 y3 y4 y5 y6 y7 y8 y9 y10 y11
   unfold serifref09_New.l1
   repeat' first
   | (with_reducible exact ih0 _ _ _ _ _ _ _ _)
   | (with_reducible exact ih1 _ _ _ _ _ _ _ _ _ _ _ _)
   | (with_reducible exact LeO.refl _)
   | (with_reducible exact LeO.none _)
   | (with_reducible refine LeO.ite ?_ ?_)
   | (with_reducible refine LeO.bind ?_ (fun _ => ?_))
   | exact ih0 _ _ _ _ _ _ _ _
   | exact ih1 _ _ _ _ _ _ _ _ _ _ _ _
   | exact LeO.none _
   | refine LeO.ite ?_ ?_
   | refine LeO.bind ?_ (fun _ => ?_)
theorem serifref09_New.mono : ∀ a0 k, LeO (serifref09_New.f k a0) (serifref09_New.f (k + 1) a0) := by
 intro a0 k
 obtain ⟨ih0, ih1⟩ := serifref09_New.mono_l k
 unfold serifref09_New.f
 repeat' first
   | (with_reducible exact ih0 _ _ _ _ _ _ _ _)
   | (with_reducible exact ih1 _ _ _ _ _ _ _ _ _ _ _ _)
   | (with_reducible exact LeO.refl _)
   | (with_reducible exact LeO.none _)
   | (with_reducible refine LeO.ite ?_ ?_)
   | (with_reducible refine LeO.bind ?_ (fun _ => ?_))
   | exact ih0 _ _ _ _ _ _ _ _
   | exact ih1 _ _ _ _ _ _ _ _ _ _ _ _
   | exact LeO.none _
   | refine LeO.ite ?_ ?_
   | refine LeO.bind ?_ (fun _ => ?_)
set_option maxHeartbeats 8000000 in
set_option maxRecDepth 100000 in
theorem serifref09_New.calls (k : Nat) (A0 : Option Addr) (c0 : Nat) (l0 : List (List (S48))) (r1 : List (S43)) (r2 : List (S43)) (r3 : List Bool) (r4 : List Bool) (r5 : List Int) (w : World) (hr0 : Kd.C (Kd.slice 48 k48) w A0 l0.length l0) (hc0 : l0.length ≤ c0) (h : serifref09_New.f k l0 = some (r1, r2, r3, r4, r5)) :
  Calls Try.prog 25 #[.slice A0 l0.length c0] w fun e w' => ∃ v0_ v1_ v2_ v3_ v4_ : Value, e = .returned (.agg #[v0_, v1_, v2_, v3_, v4_]) ∧ Kd.R k43 43 w' w.heap.size (fun k_ => some k_ ≠ oB v1_) v0_ r1 ∧ Kd.R k43 43 w' w.heap.size (fun k_ => some k_ ≠ oB v0_) v1_ r2 ∧ Kd.R Kd.bool 4 w' w.heap.size (fun k_ => some k_ ≠ oB v3_) v2_ r3 ∧ Kd.R Kd.bool 4 w' w.heap.size (fun k_ => some k_ ≠ oB v2_) v3_ r4 ∧ Kd.R (Kd.int .i64) 3 w' w.heap.size (fun _ => True) v4_ r5 ∧ Below w.heap.size w w' := by
 have hu30 := Try.underlying30; have hu48 := Try.underlying48; have hu43 := Try.underlying43; have HR0 := aK hr0; have HC0 := aK hc0; clear hr0 hc0; have HB := aK (Below.refl w.heap.size w); have H : (serifref09_New.l0 k l0 (l0.length : Int) 0 ([] : List (S43)) ([] : List (S43)) ([] : List Bool) ([] : List Bool) ([] : List Int)) = some (r1, r2, r3, r4, r5) := h; clear h; have H' := aK H; clear H
 go_enter Try.func25, Try.ntmps25
 go_wp2_with (first | ((with_reducible refine gate_dst (N := 2) rfl ?_); refine box_event ?hg (N := 2) ?hd (cs := #[.slice none 0 0, .slice none 0 0, .slice none 0 0, .slice none 0 0, .slice none 0 0]) (t := 30) ?hr ?_; (case hd => rfl); (case hg => rfl); (case hr => first | (go_simp; done) | (go_simp; rfl)); intro gb171 hg w2 hbox hb; have BK171 := aK (hbox); have GW171 := aK ((by rw [hg]; exact (lZ (by with_reducible repeat first | exact HB.out | apply lN | apply lD)) : w.heap.size ≤ gb171)); have GE171 := aK ((by rw [hg]; exact (lZ (by with_reducible repeat first | exact HB.out | apply lN | apply lD)) : w.heap.size ≤ gb171)); replace HB := aK (lT HB.out hb); clear hb hbox hg) | ((with_reducible refine gate_dst (N := 3) rfl ?_); refine box_event ?hg (N := 3) ?hd (cs := #[.slice none 0 0, .slice none 0 0, .slice none 0 0, .slice none 0 0, .slice none 0 0]) (t := 30) ?hr ?_; (case hd => rfl); (case hg => rfl); (case hr => first | (go_simp; done) | (go_simp; rfl)); intro gb172 hg w3 hbox hb; have BK172 := aK (hbox); have GW172 := aK ((by rw [hg]; exact (lZ (by with_reducible repeat first | exact HB.out | apply lN | apply lD | refine lS ?_ GE171.out)) : w.heap.size ≤ gb172)); have GE172 := aK ((by rw [hg]; exact (lZ (by with_reducible repeat first | exact HB.out | apply lN | apply lD | refine lS ?_ GE171.out)) : w.heap.size ≤ gb172)); have NB171_172 := aK ((by rw [hg]; exact Nat.ne_of_lt (blk_lt BK171.out) : gb171 ≠ gb172)); have NB172_171 := aK ((by rw [hg]; exact Nat.ne_of_gt (blk_lt BK171.out) : gb172 ≠ gb171)); replace BK171 := aK (bB BK171.out hb); replace HB := aK (lT (by with_reducible repeat first | exact HB.out | refine lS ?_ GE171.out) hb); clear hb hbox hg; have hnb4 := NB172_171.out; have hnc4 := NB171_172.out; have hcz5_0 := bc BK172.out 0 rfl; have hcz5_1 := bc BK172.out 1 rfl; have hcz5_2 := bc BK172.out 2 rfl; have hcz5_3 := bc BK172.out 3 rfl; have hcz5_4 := bc BK172.out 4 rfl; have hfz5_0 := bF BK172.out 0; have hfz5_1 := bF BK172.out 1; have hfz5_2 := bF BK172.out 2; have hfz5_3 := bF BK172.out 3; have hfz5_4 := bF BK172.out 4))
 go_loopg [11] k (fun kq v11 w' => ∃ (x11_1 : Int) (x173000_1 : List (S43)) (x173001_1 : List (S43)) (x173002_1 : List Bool) (x173003_1 : List Bool) (x173004_1 : List Int) (u173000 : Value) (u173001 : Value) (u173002 : Value) (u173003 : Value) (u173004 : Value), v11 = .int .i64 x11_1 ∧ Aside0 (serifref09_New.l0 kq l0 (l0.length : Int) x11_1 x173000_1 x173001_1 x173002_1 x173003_1 x173004_1 = some (r1, r2, r3, r4, r5)) ∧ Aside0 (kq ≤ k) ∧ Aside0 (Kd.R k43 43 w' w.heap.size (fun k_ => some k_ ≠ oB u173001) u173000 x173000_1) ∧ Aside0 (Kd.R k43 43 w' w.heap.size (fun k_ => some k_ ≠ oB u173000) u173001 x173001_1) ∧ Aside0 (Kd.R Kd.bool 4 w' w.heap.size (fun k_ => some k_ ≠ oB u173003) u173002 x173002_1) ∧ Aside0 (Kd.R Kd.bool 4 w' w.heap.size (fun k_ => some k_ ≠ oB u173002) u173003 x173003_1) ∧ Aside0 (Kd.R (Kd.int .i64) 3 w' w.heap.size (fun _ => True) u173004 x173004_1) ∧ Aside0 (w'.heap[gb171]? = some (.cells #[(.slice none 0 0), (.slice none 0 0), (.slice none 0 0), (.slice none 0 0), (.slice none 0 0)] 30 (0, 0))) ∧ Aside0 (w'.heap[gb172]? = some (.cells #[u173000, u173001, u173002, u173003, u173004] 30 (0, 0))) ∧ Aside0 (Below w.heap.size w w'))
 case atStart => exact ⟨(0), (([] : List (S43))), (([] : List (S43))), (([] : List Bool)), (([] : List Bool)), (([] : List Int)), (.slice none 0 0), (.slice none 0 0), (.slice none 0 0), (.slice none 0 0), (.slice none 0 0), (by first | rfl | (simp; done) | (simp [*]; done)), H', ⟨Nat.le_refl _⟩, ⟨by first | exact Kd.R_nil _ _ _ _ _ | exact Kd.N_nil _ _ _ _ _ | exact Kd.V_nil _ _ _ _ _ | exact Kd.Q_nil _ _ _ _ _ | exact Kd.S_nil _ _ _ _ _⟩, ⟨by first | exact Kd.R_nil _ _ _ _ _ | exact Kd.N_nil _ _ _ _ _ | exact Kd.V_nil _ _ _ _ _ | exact Kd.Q_nil _ _ _ _ _ | exact Kd.S_nil _ _ _ _ _⟩, ⟨by first | exact Kd.R_nil _ _ _ _ _ | exact Kd.N_nil _ _ _ _ _ | exact Kd.V_nil _ _ _ _ _ | exact Kd.Q_nil _ _ _ _ _ | exact Kd.S_nil _ _ _ _ _⟩, ⟨by first | exact Kd.R_nil _ _ _ _ _ | exact Kd.N_nil _ _ _ _ _ | exact Kd.V_nil _ _ _ _ _ | exact Kd.Q_nil _ _ _ _ _ | exact Kd.S_nil _ _ _ _ _⟩, ⟨by first | exact Kd.R_nil _ _ _ _ _ | exact Kd.N_nil _ _ _ _ _ | exact Kd.V_nil _ _ _ _ _ | exact Kd.Q_nil _ _ _ _ _ | exact Kd.S_nil _ _ _ _ _⟩, ⟨(bR (bR (bR (bR (bR BK171.out NB171_172.out _) NB171_172.out _) NB171_172.out _) NB171_172.out _) NB171_172.out _)⟩, ⟨(bP (cs := #[.slice none 0 0, .slice none 0 0, .slice none 0 0, .slice none 0 0, .slice none 0 0]) (bP (cs := #[.slice none 0 0, .slice none 0 0, .slice none 0 0, .slice none 0 0, .slice none 0 0]) (bP (cs := #[.slice none 0 0, .slice none 0 0, .slice none 0 0, .slice none 0 0, .slice none 0 0]) (bP (cs := #[.slice none 0 0, .slice none 0 0, .slice none 0 0, .slice none 0 0, .slice none 0 0]) (bP (cs := #[.slice none 0 0, .slice none 0 0, .slice none 0 0, .slice none 0 0, .slice none 0 0]) BK172.out 0 _ rfl) 1 _ rfl) 2 _ rfl) 3 _ rfl) 4 _ rfl)⟩, ⟨by with_reducible repeat first | exact HB.out | apply lN | apply lD | refine lS ?_ GE171.out | refine lS ?_ GE172.out⟩⟩
 case round =>
  clear H'; (try clear c2); (try clear p2); (try clear c4); (try clear hcz5_0); (try clear hcz5_1); (try clear hcz5_2); (try clear hcz5_3); (try clear hcz5_4); (try clear hfz5_0); (try clear hfz5_1); (try clear hfz5_2); (try clear hfz5_3); (try clear hfz5_4); obtain ⟨x11_1, x173000_1, x173001_1, x173002_1, x173003_1, x173004_1, u173000, u173001, u173002, u173003, u173004, rfl, HA, HK1, HO_173000, HO_173001, HO_173002, HO_173003, HO_173004, BK171, BK172, HB⟩ := hrel
  cases gk with
  | zero => exact absurd HA.out (by simp [serifref09_New.l0])
  | succ k1 =>
   have H := HA.out; clear HA
   simp only [serifref09_New.l0] at H
   by_cases c6 : x11_1 < (l0.length : Int)
   ·rw [if_pos c6] at H
    have c6b0 : decide (x11_1 < (l0.length : Int)) = true := decide_eq_true c6; clear c6
    by_cases c7 : 0 ≤ x11_1
    ·rw [if_pos c7] at H
     have c7b0 : decide (0 ≤ x11_1) = true := decide_eq_true c7; clear c7
     by_cases c8 : x11_1 < (l0.length : Int)
     ·rw [if_pos c8] at H
      have c8b0 : decide (x11_1 < (l0.length : Int)) = true := decide_eq_true c8; clear c8; have H' := aK H; clear H; have p173 : 0 ≤ (x11_1 : Int) := of_decide_eq_true (by first | (with_reducible assumption) | assumption); have q173 : x11_1 < (l0.length : Int) := of_decide_eq_true (by first | (with_reducible assumption) | assumption); obtain ⟨ad173, A173_0, c173_0, e173, hx173_0, hl173_0, hi173_0⟩ := at_L4 HR0.out x11_1 p173 q173
      cases e173
      replace hx173_0 := (HB.out.cell (World.block_lt_of_cell? w _ hx173_0)).trans hx173_0; have HR173_0 := aK hi173_0; have HC173_0 := aK hl173_0; clear hi173_0 hl173_0; replace p173 := eq_true p173; replace q173 := eq_true q173
      go_wp2
      go_loopg [17] k1 (fun kq v17 w' => ∃ (x17_2 : Int) (x173000_2 : List (S43)) (x173001_2 : List (S43)) (x173002_2 : List Bool) (x173003_2 : List Bool) (u173000 : Value) (u173001 : Value) (u173002 : Value) (u173003 : Value), v17 = .int .i64 x17_2 ∧ Aside0 (serifref09_New.l1 kq (rd_L4 l0 x11_1) l0 (l0.length : Int) x11_1 (rd_L4 l0 x11_1) ((rd_L4 l0 x11_1).length : Int) x17_2 x173000_2 x173001_2 x173002_2 x173003_2 x173004_1 = some (r1, r2, r3, r4, r5)) ∧ Aside0 (kq ≤ k1) ∧ Aside0 (Kd.R k43 43 w' w.heap.size (fun k_ => some k_ ≠ oB u173001) u173000 x173000_2) ∧ Aside0 (Kd.R k43 43 w' w.heap.size (fun k_ => some k_ ≠ oB u173000) u173001 x173001_2) ∧ Aside0 (Kd.R Kd.bool 4 w' w.heap.size (fun k_ => some k_ ≠ oB u173003) u173002 x173002_2) ∧ Aside0 (Kd.R Kd.bool 4 w' w.heap.size (fun k_ => some k_ ≠ oB u173002) u173003 x173003_2) ∧ Aside0 (Kd.R (Kd.int .i64) 3 w' w.heap.size (fun _ => True) u173004 x173004_1) ∧ Aside0 (w'.heap[gb171]? = some (.cells #[(.slice none 0 0), (.slice none 0 0), (.slice none 0 0), (.slice none 0 0), (.slice none 0 0)] 30 (0, 0))) ∧ Aside0 (w'.heap[gb172]? = some (.cells #[u173000, u173001, u173002, u173003, u173004] 30 (0, 0))) ∧ Aside0 (Below w.heap.size w w'))
      case atStart => exact ⟨(0), (x173000_1), (x173001_1), (x173002_1), (x173003_1), (u173000), (u173001), (u173002), (u173003), (by first | rfl | (simp; done) | (simp [*]; done)), H', ⟨Nat.le_refl _⟩, ⟨by (with_reducible repeat (first | apply rA | apply rN | apply rD)); exact HO_173000.out⟩, ⟨by (with_reducible repeat (first | apply rA | apply rN | apply rD)); exact HO_173001.out⟩, ⟨by (with_reducible repeat (first | apply rA | apply rN | apply rD)); exact HO_173002.out⟩, ⟨by (with_reducible repeat (first | apply rA | apply rN | apply rD)); exact HO_173003.out⟩, ⟨by (with_reducible repeat (first | apply rA | apply rN | apply rD)); exact HO_173004.out⟩, ⟨BK171.out⟩, ⟨BK172.out⟩, ⟨by with_reducible repeat first | exact HB.out | apply lN | apply lD | refine lS ?_ GE171.out | refine lS ?_ GE172.out⟩⟩
      case round =>
       clear H'; (try clear c1); (try clear p1); (try clear q1); (try clear hx1); (try clear c2); (try clear p2); (try clear c4); (try clear c6); (try clear c6b0); (try clear c7); (try clear c7b0); (try clear c8); (try clear c8b0); (try clear hcz5_0); (try clear hcz5_1); (try clear hcz5_2); (try clear hcz5_3); (try clear hcz5_4); (try clear hfz5_0); (try clear hfz5_1); (try clear hfz5_2); (try clear hfz5_3); (try clear hfz5_4); (try clear hx173_0); (try clear p173); (try clear p2); (try clear q173); obtain ⟨x17_2, x173000_2, x173001_2, x173002_2, x173003_2, u173000, u173001, u173002, u173003, rfl, HA, HK2, HO_173000, HO_173001, HO_173002, HO_173003, HO_173004, BK171, BK172, HB⟩ := hrel
       cases gk with
       | zero => exact absurd HA.out (by simp [serifref09_New.l1])
       | succ k2 =>
        have H := HA.out; clear HA
        simp only [serifref09_New.l1] at H
        by_cases c9 : x17_2 < ((rd_L4 l0 x11_1).length : Int)
        ·rw [if_pos c9] at H
         have c9b0 : decide (x17_2 < ((rd_L4 l0 x11_1).length : Int)) = true := decide_eq_true c9; clear c9
         by_cases c10 : 0 ≤ x17_2
         ·rw [if_pos c10] at H
          have c10b0 : decide (0 ≤ x17_2) = true := decide_eq_true c10; clear c10
          by_cases c11 : x17_2 < ((rd_L4 l0 x11_1).length : Int)
          ·rw [if_pos c11] at H
           have c11b0 : decide (x17_2 < ((rd_L4 l0 x11_1).length : Int)) = true := decide_eq_true c11; clear c11
           by_cases c12 : x173000_2.length < 8796093022208
           ·rw [if_pos c12] at H
            have LMc12 := aK c12; clear c12; obtain ⟨y176, hy176⟩ : ∃ y_ : List (S43), y_ = (x173000_2 ++ [(⟨(rd_T48 (rd_L4 l0 x11_1) x17_2).f0, (rd_T48 (rd_L4 l0 x11_1) x17_2).f1⟩ : S43)]) := ⟨_, rfl⟩; replace H : (if x173001_2.length < 8796093022208 then (if x173002_2.length < 140737488355328 then (if x173003_2.length < 140737488355328 then (serifref09_New.l1 k2 (rd_L4 l0 x11_1) l0 (l0.length : Int) x11_1 (rd_L4 l0 x11_1) ((rd_L4 l0 x11_1).length : Int) (wrap64 (x17_2 + 1)) y176 (x173001_2 ++ [(⟨(rd_T48 (rd_L4 l0 x11_1) x17_2).f0, (rd_T48 (rd_L4 l0 x11_1) x17_2).f1⟩ : S43)]) (x173002_2 ++ [false]) (x173003_2 ++ [false]) x173004_1) else (none)) else (none)) else (none)) = some (r1, r2, r3, r4, r5) := by first | (rw [hy176]; with_reducible exact H) | (have H2_ := (Option.bind_some _ _).symm.trans H; rw [hy176]; with_reducible exact H2_) | (have H2_ := (Option.bind_some _ _).symm.trans H; with_reducible exact H2_) | with_reducible exact H | (rw [hy176]; exact H) | exact H
            have Ny176 := aK hy176; clear hy176
            by_cases c13 : x173001_2.length < 8796093022208
            ·rw [if_pos c13] at H
             have LMc13 := aK c13; clear c13; obtain ⟨y179, hy179⟩ : ∃ y_ : List (S43), y_ = (x173001_2 ++ [(⟨(rd_T48 (rd_L4 l0 x11_1) x17_2).f0, (rd_T48 (rd_L4 l0 x11_1) x17_2).f1⟩ : S43)]) := ⟨_, rfl⟩; replace H : (if x173002_2.length < 140737488355328 then (if x173003_2.length < 140737488355328 then (serifref09_New.l1 k2 (rd_L4 l0 x11_1) l0 (l0.length : Int) x11_1 (rd_L4 l0 x11_1) ((rd_L4 l0 x11_1).length : Int) (wrap64 (x17_2 + 1)) y176 y179 (x173002_2 ++ [false]) (x173003_2 ++ [false]) x173004_1) else (none)) else (none)) = some (r1, r2, r3, r4, r5) := by first | (rw [hy179]; with_reducible exact H) | (have H2_ := (Option.bind_some _ _).symm.trans H; rw [hy179]; with_reducible exact H2_) | (have H2_ := (Option.bind_some _ _).symm.trans H; with_reducible exact H2_) | with_reducible exact H | (rw [hy179]; exact H) | exact H
             have Ny179 := aK hy179; clear hy179
             by_cases c14 : x173002_2.length < 140737488355328
             ·rw [if_pos c14] at H
              have LMc14 := aK c14; clear c14; obtain ⟨y182, hy182⟩ : ∃ y_ : List Bool, y_ = (x173002_2 ++ [false]) := ⟨_, rfl⟩; replace H : (if x173003_2.length < 140737488355328 then (serifref09_New.l1 k2 (rd_L4 l0 x11_1) l0 (l0.length : Int) x11_1 (rd_L4 l0 x11_1) ((rd_L4 l0 x11_1).length : Int) (wrap64 (x17_2 + 1)) y176 y179 y182 (x173003_2 ++ [false]) x173004_1) else (none)) = some (r1, r2, r3, r4, r5) := by first | (rw [hy182]; with_reducible exact H) | (have H2_ := (Option.bind_some _ _).symm.trans H; rw [hy182]; with_reducible exact H2_) | (have H2_ := (Option.bind_some _ _).symm.trans H; with_reducible exact H2_) | with_reducible exact H | (rw [hy182]; exact H) | exact H
              have Ny182 := aK hy182; clear hy182
              by_cases c15 : x173003_2.length < 140737488355328
              ·rw [if_pos c15] at H
               have LMc15 := aK c15; clear c15; obtain ⟨y185, hy185⟩ : ∃ y_ : List Bool, y_ = (x173003_2 ++ [false]) := ⟨_, rfl⟩; replace H : (serifref09_New.l1 k2 (rd_L4 l0 x11_1) l0 (l0.length : Int) x11_1 (rd_L4 l0 x11_1) ((rd_L4 l0 x11_1).length : Int) (wrap64 (x17_2 + 1)) y176 y179 y182 y185 x173004_1) = some (r1, r2, r3, r4, r5) := by first | (rw [hy185]; with_reducible exact H) | (have H2_ := (Option.bind_some _ _).symm.trans H; rw [hy185]; with_reducible exact H2_) | (have H2_ := (Option.bind_some _ _).symm.trans H; with_reducible exact H2_) | with_reducible exact H | (rw [hy185]; exact H) | exact H
               have Ny185 := aK hy185; clear hy185; have H' := aK H; clear H; have p174 : 0 ≤ (x17_2 : Int) := of_decide_eq_true (by first | (with_reducible assumption) | assumption); have q174 : x17_2 < ((rd_L4 l0 x11_1).length : Int) := of_decide_eq_true (by first | (with_reducible assumption) | assumption); obtain ⟨ad174, e174, hx174_0, hx174_1, hx174_2⟩ := at_T48 HR173_0.out x17_2 p174 q174
               cases e174
               replace hx174_0 := (HB.out.cell (World.block_lt_of_cell? w _ hx174_0)).trans hx174_0; replace hx174_1 := (HB.out.cell (World.block_lt_of_cell? w _ hx174_1)).trans hx174_1; replace hx174_2 := (HB.out.cell (World.block_lt_of_cell? w _ hx174_2)).trans hx174_2; replace p174 := eq_true p174; replace q174 := eq_true q174
               go_wp2_with (first | ((with_reducible refine gate_dst (N := 7) rfl ?_); refine box_event ?hg (N := 7) ?hd (cs := #[.int .i64 0, .int .i64 0, .int .i64 0]) (t := 48) ?hr ?_; (case hd => rfl); (case hg => rfl); (case hr => first | (go_simp; done) | (go_simp; rfl)); intro gb175 hg w16 hbox hb; have BK175 := aK (hbox); have GW175 := aK ((by rw [hg]; exact (lZ (by with_reducible repeat first | exact HB.out | apply lN | apply lD | refine lS ?_ GE171.out | refine lS ?_ GE172.out)) : w.heap.size ≤ gb175)); have GE175 := aK ((by rw [hg]; exact (lZ (by with_reducible repeat first | exact HB.out | apply lN | apply lD | refine lS ?_ GE171.out | refine lS ?_ GE172.out)) : w.heap.size ≤ gb175)); have NB171_175 := aK ((by rw [hg]; exact Nat.ne_of_lt (blk_lt BK171.out) : gb171 ≠ gb175)); have NB175_171 := aK ((by rw [hg]; exact Nat.ne_of_gt (blk_lt BK171.out) : gb175 ≠ gb171)); have NB172_175 := aK ((by rw [hg]; exact Nat.ne_of_lt (blk_lt BK172.out) : gb172 ≠ gb175)); have NB175_172 := aK ((by rw [hg]; exact Nat.ne_of_gt (blk_lt BK172.out) : gb175 ≠ gb172)); replace HO_173000 := aK (rB HO_173000.out hb); replace HO_173001 := aK (rB HO_173001.out hb); replace HO_173002 := aK (rB HO_173002.out hb); replace HO_173003 := aK (rB HO_173003.out hb); replace HO_173004 := aK (rB HO_173004.out hb); replace BK171 := aK (bB BK171.out hb); replace BK172 := aK (bB BK172.out hb); replace HB := aK (lT (by with_reducible repeat first | exact HB.out | refine lS ?_ GE171.out | refine lS ?_ GE172.out) hb); clear hb hbox hg; have hnb17 := NB175_171.out; have hnc17 := NB171_175.out; have hnb18 := NB175_172.out; have hnc18 := NB172_175.out; have hcz19_0 := bc BK175.out 0 rfl; have hcz19_1 := bc BK175.out 1 rfl; have hcz19_2 := bc BK175.out 2 rfl; have hfz19_0 := bF BK175.out 0; have hfz19_1 := bF BK175.out 1; have hfz19_2 := bF BK175.out 2; have hnb20 := NB172_171.out; have hnc20 := NB171_172.out; have hcz21_0 := bc BK172.out 0 rfl; have hcz21_1 := bc BK172.out 1 rfl; have hcz21_2 := bc BK172.out 2 rfl; have hcz21_3 := bc BK172.out 3 rfl; have hcz21_4 := bc BK172.out 4 rfl; have hfz21_0 := bF BK172.out 0; have hfz21_1 := bF BK172.out 1; have hfz21_2 := bF BK172.out 2; have hfz21_3 := bF BK172.out 3; have hfz21_4 := bF BK172.out 4) | ((with_reducible refine gate_builtin (b := .append) (xs := #[.tmp 22, .tmp 28]) rfl ?_); at_builtin; refine Kd.R_append k43 (w0 := w) w.heap.size rfl (.tmp 22) (.tmp 28) 26 43 (.agg #[(.int .i64 0), (.int .i64 0)]) 16 rfl Try.underlying26 info43 rfl (by decide) (by omega) u173000 x173000_2 (⟨(rd_T48 (rd_L4 l0 x11_1) x17_2).f0, (rd_T48 (rd_L4 l0 x11_1) x17_2).f1⟩ : S43) [.int .i64 ((rd_T48 (rd_L4 l0 x11_1) x17_2).f0), .int .i64 ((rd_T48 (rd_L4 l0 x11_1) x17_2).f1)] (fun k_ => some k_ ≠ oB u173001) (fun _ => False) rfl (by first | (go_simp; done) | (go_simp; rfl)) ?aP (fun _ hk => hk.elim) ?aF ?aO ?aB ?aS ?aL ?_; (case aP => exact k43_mkM _ _ _ (⟨(rd_T48 (rd_L4 l0 x11_1) x17_2).f0, (rd_T48 (rd_L4 l0 x11_1) x17_2).f1⟩ : S43)); (case aB => exact (by with_reducible repeat first | exact HB.out | apply lN | apply lD | refine lS ?_ GE171.out | refine lS ?_ GE172.out | refine lS ?_ GE175.out)); (case aF => exact (fun k_ hk => Kd.fresh' (Kd.R_lt (st3 HO_173001.out BK175.out (by decide))) k_ hk)); (case aO => exact (rM (st3 HO_173000.out BK175.out (by decide)) (fun _ hk => hk))); (case aS => exact (lZ (by with_reducible repeat first | exact HB.out | apply lN | apply lD | refine lS ?_ GE171.out | refine lS ?_ GE172.out | refine lS ?_ GE175.out))); (case aL => have := LMc12.out; omega); intro v177 w22 ho hb hg hat; rw [← Ny176.out] at ho; have HO178 := aK (ho); replace HO_173001 := aK (Kd.R_after (ok := (fun _ => True)) (rM (st3 HO_173001.out BK175.out (by decide)) (fun _ hk => ⟨trivial, hk⟩)) hg hat); replace HO_173002 := aK (Kd.R_over' (st3 HO_173002.out BK175.out (by decide)) (Kd.R_typed (st3 HO_173000.out BK175.out (by decide))) (by decide) hg); replace HO_173003 := aK (Kd.R_over' (st3 HO_173003.out BK175.out (by decide)) (Kd.R_typed (st3 HO_173000.out BK175.out (by decide))) (by decide) hg); replace HO_173004 := aK (Kd.R_over' (st3 HO_173004.out BK175.out (by decide)) (Kd.R_typed (st3 HO_173000.out BK175.out (by decide))) (by decide) hg); replace BK171 := aK (bG (bR (bR (bR BK171.out NB171_175.out _) NB171_175.out _) NB171_175.out _) hg (Kd.R_ne HO_173000.out BK171.out (by decide))); replace BK172 := aK (bG (bR (bR (bR BK172.out NB172_175.out _) NB172_175.out _) NB172_175.out _) hg (Kd.R_ne HO_173000.out BK172.out (by decide))); replace BK175 := aK (bG (bP (cs := #[.int .i64 ((rd_T48 (rd_L4 l0 x11_1) x17_2).f0), .int .i64 ((rd_T48 (rd_L4 l0 x11_1) x17_2).f1), .int .i64 0]) (bP (cs := #[.int .i64 ((rd_T48 (rd_L4 l0 x11_1) x17_2).f0), .int .i64 0, .int .i64 0]) (bP (cs := #[.int .i64 0, .int .i64 0, .int .i64 0]) BK175.out 0 _ rfl) 1 _ rfl) 2 _ rfl) hg (Kd.R_ne HO_173000.out BK175.out (by decide))); replace HB := aK (hb); (try clear HO_173000); clear ho hb hg hat; obtain ⟨Ao23, co23, eo23⟩ := Kd.R_slice HO178.out; subst eo23; have hcz24_0 := bc BK172.out 0 rfl; have hcz24_1 := bc BK172.out 1 rfl; have hcz24_2 := bc BK172.out 2 rfl; have hcz24_3 := bc BK172.out 3 rfl; have hcz24_4 := bc BK172.out 4 rfl; have hfz24_0 := bF BK172.out 0; have hfz24_1 := bF BK172.out 1; have hfz24_2 := bF BK172.out 2; have hfz24_3 := bF BK172.out 3; have hfz24_4 := bF BK172.out 4; have hcz25_0 : w22.cell? ⟨gb175, 0, none⟩ = some (.int .i64 ((rd_T48 (rd_L4 l0 x11_1) x17_2).f0)) := (bC BK175.out 0).trans rfl; have hcz25_1 : w22.cell? ⟨gb175, 1, none⟩ = some (.int .i64 ((rd_T48 (rd_L4 l0 x11_1) x17_2).f1)) := (bC BK175.out 1).trans rfl; have hcz25_2 : w22.cell? ⟨gb175, 2, none⟩ = some (.int .i64 ((rd_T48 (rd_L4 l0 x11_1) x17_2).f2)) := (bC BK175.out 2).trans rfl; have hfz25_0 := bF BK175.out 0; have hfz25_1 := bF BK175.out 1; have hfz25_2 := bF BK175.out 2) | ((with_reducible refine gate_builtin (b := .append) (xs := #[.tmp 32, .tmp 38]) rfl ?_); at_builtin; refine Kd.R_append k43 (w0 := w) w.heap.size rfl (.tmp 32) (.tmp 38) 26 43 (.agg #[(.int .i64 0), (.int .i64 0)]) 16 rfl Try.underlying26 info43 rfl (by decide) (by omega) u173001 x173001_2 (⟨(rd_T48 (rd_L4 l0 x11_1) x17_2).f0, (rd_T48 (rd_L4 l0 x11_1) x17_2).f1⟩ : S43) [.int .i64 ((rd_T48 (rd_L4 l0 x11_1) x17_2).f0), .int .i64 ((rd_T48 (rd_L4 l0 x11_1) x17_2).f1)] (fun k_ => some k_ ≠ oB (.slice Ao23 y176.length co23)) (fun _ => False) rfl (by first | (go_simp; done) | (go_simp; rfl)) ?aP (fun _ hk => hk.elim) ?aF ?aO ?aB ?aS ?aL ?_; (case aP => exact k43_mkM _ _ _ (⟨(rd_T48 (rd_L4 l0 x11_1) x17_2).f0, (rd_T48 (rd_L4 l0 x11_1) x17_2).f1⟩ : S43)); (case aB => exact (by with_reducible repeat first | exact HB.out | apply lN | apply lD | refine lS ?_ GE171.out | refine lS ?_ GE172.out | refine lS ?_ GE175.out)); (case aF => exact (fun k_ hk => Kd.fresh' (Kd.R_lt (st1 HO178.out BK172.out (by decide))) k_ hk)); (case aO => exact (rM (st1 HO_173001.out BK172.out (by decide)) (fun _ hk => hk.2))); (case aS => exact (lZ (by with_reducible repeat first | exact HB.out | apply lN | apply lD | refine lS ?_ GE171.out | refine lS ?_ GE172.out | refine lS ?_ GE175.out))); (case aL => have := LMc13.out; omega); intro v180 w26 ho hb hg hat; rw [← Ny179.out] at ho; have HO181 := aK (ho); replace HO_173002 := aK (Kd.R_over' (st1 HO_173002.out BK172.out (by decide)) (Kd.R_typed (st1 HO_173001.out BK172.out (by decide))) (by decide) hg); replace HO_173003 := aK (Kd.R_over' (st1 HO_173003.out BK172.out (by decide)) (Kd.R_typed (st1 HO_173001.out BK172.out (by decide))) (by decide) hg); replace HO_173004 := aK (Kd.R_over' (st1 HO_173004.out BK172.out (by decide)) (Kd.R_typed (st1 HO_173001.out BK172.out (by decide))) (by decide) hg); replace BK171 := aK (bG (bR BK171.out NB171_172.out _) hg (Kd.R_ne HO_173001.out BK171.out (by decide))); replace BK175 := aK (bG (bR BK175.out NB175_172.out _) hg (Kd.R_ne HO_173001.out BK175.out (by decide))); replace HO178 := aK (Kd.R_after (ok := (fun _ => True)) (rM (st1 HO178.out BK172.out (by decide)) (fun _ hk => ⟨trivial, hk⟩)) hg hat); replace BK172 := aK (bG (bP (cs := #[u173000, u173001, u173002, u173003, u173004]) BK172.out 0 _ rfl) hg (Kd.R_ne HO_173001.out BK172.out (by decide))); replace HB := aK (hb); (try clear HO_173001); clear ho hb hg hat; obtain ⟨Ao27, co27, eo27⟩ := Kd.R_slice HO181.out; subst eo27; have hcz28_0 := bc BK172.out 0 rfl; have hcz28_1 := bc BK172.out 1 rfl; have hcz28_2 := bc BK172.out 2 rfl; have hcz28_3 := bc BK172.out 3 rfl; have hcz28_4 := bc BK172.out 4 rfl; have hfz28_0 := bF BK172.out 0; have hfz28_1 := bF BK172.out 1; have hfz28_2 := bF BK172.out 2; have hfz28_3 := bF BK172.out 3; have hfz28_4 := bF BK172.out 4) | ((with_reducible refine gate_builtin (b := .append) (xs := #[.tmp 42, .tmp 43]) rfl ?_); at_builtin; refine Kd.R_append Kd.bool (w0 := w) w.heap.size rfl (.tmp 42) (.tmp 43) 27 4 (.bool false) 1 rfl Try.underlying27 info4 rfl (by decide) (by omega) u173002 x173002_2 false [.bool false] (fun k_ => some k_ ≠ oB u173003) (fun _ => False) rfl (by first | (go_simp; done) | (go_simp; rfl)) ?aP (fun _ hk => hk.elim) ?aF ?aO ?aB ?aS ?aL ?_; (case aP => exact rfl); (case aB => exact (by with_reducible repeat first | exact HB.out | apply lN | apply lD | refine lS ?_ GE171.out | refine lS ?_ GE172.out | refine lS ?_ GE175.out)); (case aF => exact (fun k_ hk => Kd.fresh' (Kd.R_lt (st1 HO_173003.out BK172.out (by decide))) k_ hk)); (case aO => exact (rM (st1 HO_173002.out BK172.out (by decide)) (fun _ hk => hk))); (case aS => exact (lZ (by with_reducible repeat first | exact HB.out | apply lN | apply lD | refine lS ?_ GE171.out | refine lS ?_ GE172.out | refine lS ?_ GE175.out))); (case aL => have := LMc14.out; omega); intro v183 w29 ho hb hg hat; rw [← Ny182.out] at ho; have HO184 := aK (ho); replace HO_173003 := aK (Kd.R_after (ok := (fun _ => True)) (rM (st1 HO_173003.out BK172.out (by decide)) (fun _ hk => ⟨trivial, hk⟩)) hg hat); replace HO_173004 := aK (Kd.R_over' (st1 HO_173004.out BK172.out (by decide)) (Kd.R_typed (st1 HO_173002.out BK172.out (by decide))) (by decide) hg); replace BK171 := aK (bG (bR BK171.out NB171_172.out _) hg (Kd.R_ne HO_173002.out BK171.out (by decide))); replace BK175 := aK (bG (bR BK175.out NB175_172.out _) hg (Kd.R_ne HO_173002.out BK175.out (by decide))); replace HO178 := aK (Kd.R_over' (st1 HO178.out BK172.out (by decide)) (Kd.R_typed (st1 HO_173002.out BK172.out (by decide))) (by decide) hg); replace HO181 := aK (Kd.R_over' (st1 HO181.out BK172.out (by decide)) (Kd.R_typed (st1 HO_173002.out BK172.out (by decide))) (by decide) hg); replace BK172 := aK (bG (bP (cs := #[.slice Ao23 y176.length co23, u173001, u173002, u173003, u173004]) BK172.out 1 _ rfl) hg (Kd.R_ne HO_173002.out BK172.out (by decide))); replace HB := aK (hb); (try clear HO_173002); clear ho hb hg hat; obtain ⟨Ao30, co30, eo30⟩ := Kd.R_slice HO184.out; subst eo30; have hcz31_0 := bc BK172.out 0 rfl; have hcz31_1 := bc BK172.out 1 rfl; have hcz31_2 := bc BK172.out 2 rfl; have hcz31_3 := bc BK172.out 3 rfl; have hcz31_4 := bc BK172.out 4 rfl; have hfz31_0 := bF BK172.out 0; have hfz31_1 := bF BK172.out 1; have hfz31_2 := bF BK172.out 2; have hfz31_3 := bF BK172.out 3; have hfz31_4 := bF BK172.out 4) | ((with_reducible refine gate_builtin (b := .append) (xs := #[.tmp 47, .tmp 48]) rfl ?_); at_builtin; refine Kd.R_append Kd.bool (w0 := w) w.heap.size rfl (.tmp 47) (.tmp 48) 27 4 (.bool false) 1 rfl Try.underlying27 info4 rfl (by decide) (by omega) u173003 x173003_2 false [.bool false] (fun k_ => some k_ ≠ oB (.slice Ao30 y182.length co30)) (fun _ => False) rfl (by first | (go_simp; done) | (go_simp; rfl)) ?aP (fun _ hk => hk.elim) ?aF ?aO ?aB ?aS ?aL ?_; (case aP => exact rfl); (case aB => exact (by with_reducible repeat first | exact HB.out | apply lN | apply lD | refine lS ?_ GE171.out | refine lS ?_ GE172.out | refine lS ?_ GE175.out)); (case aF => exact (fun k_ hk => Kd.fresh' (Kd.R_lt (st1 HO184.out BK172.out (by decide))) k_ hk)); (case aO => exact (rM (st1 HO_173003.out BK172.out (by decide)) (fun _ hk => hk.2))); (case aS => exact (lZ (by with_reducible repeat first | exact HB.out | apply lN | apply lD | refine lS ?_ GE171.out | refine lS ?_ GE172.out | refine lS ?_ GE175.out))); (case aL => have := LMc15.out; omega); intro v186 w32 ho hb hg hat; rw [← Ny185.out] at ho; have HO187 := aK (ho); replace HO_173004 := aK (Kd.R_over' (st1 HO_173004.out BK172.out (by decide)) (Kd.R_typed (st1 HO_173003.out BK172.out (by decide))) (by decide) hg); replace BK171 := aK (bG (bR BK171.out NB171_172.out _) hg (Kd.R_ne HO_173003.out BK171.out (by decide))); replace BK175 := aK (bG (bR BK175.out NB175_172.out _) hg (Kd.R_ne HO_173003.out BK175.out (by decide))); replace HO178 := aK (Kd.R_over' (st1 HO178.out BK172.out (by decide)) (Kd.R_typed (st1 HO_173003.out BK172.out (by decide))) (by decide) hg); replace HO181 := aK (Kd.R_over' (st1 HO181.out BK172.out (by decide)) (Kd.R_typed (st1 HO_173003.out BK172.out (by decide))) (by decide) hg); replace HO184 := aK (Kd.R_after (ok := (fun _ => True)) (rM (st1 HO184.out BK172.out (by decide)) (fun _ hk => ⟨trivial, hk⟩)) hg hat); replace BK172 := aK (bG (bP (cs := #[.slice Ao23 y176.length co23, .slice Ao27 y179.length co27, u173002, u173003, u173004]) BK172.out 2 _ rfl) hg (Kd.R_ne HO_173003.out BK172.out (by decide))); replace HB := aK (hb); (try clear HO_173003); clear ho hb hg hat; obtain ⟨Ao33, co33, eo33⟩ := Kd.R_slice HO187.out; subst eo33; have hcz34_0 := bc BK172.out 0 rfl; have hcz34_1 := bc BK172.out 1 rfl; have hcz34_2 := bc BK172.out 2 rfl; have hcz34_3 := bc BK172.out 3 rfl; have hcz34_4 := bc BK172.out 4 rfl; have hfz34_0 := bF BK172.out 0; have hfz34_1 := bF BK172.out 1; have hfz34_2 := bF BK172.out 2; have hfz34_3 := bF BK172.out 3; have hfz34_4 := bF BK172.out 4))
               go_roundg k2
               case measure => have := HK1.out; have := HK2.out; omega
               case rel => exact ⟨(wrap64 (x17_2 + 1)), (y176), (y179), (y182), (y185), (.slice Ao23 y176.length co23), (.slice Ao27 y179.length co27), (.slice Ao30 y182.length co30), (.slice Ao33 y185.length co33), (by first | rfl | (simp; done) | (simp [*]; done)), H', ⟨by have := HK1.out; have := HK2.out; omega⟩, ⟨rM (st1 HO178.out BK172.out (by decide)) (fun _ hk => hk.2)⟩, ⟨rM (st1 HO181.out BK172.out (by decide)) (fun _ hk => hk)⟩, ⟨rM (st1 HO184.out BK172.out (by decide)) (fun _ hk => hk.2)⟩, ⟨rM (st1 HO187.out BK172.out (by decide)) (fun _ hk => hk)⟩, ⟨rM (st1 HO_173004.out BK172.out (by decide)) (fun _ hk => trivial)⟩, ⟨(bR BK171.out NB171_172.out _)⟩, ⟨(bP (cs := #[.slice Ao23 y176.length co23, .slice Ao27 y179.length co27, .slice Ao30 y182.length co30, u173003, u173004]) BK172.out 3 _ rfl)⟩, ⟨by with_reducible repeat first | exact HB.out | apply lN | apply lD | refine lS ?_ GE171.out | refine lS ?_ GE172.out | refine lS ?_ GE175.out⟩⟩
              ·rw [if_neg c15] at H
               exact absurd H (by simp)
             ·rw [if_neg c14] at H
              exact absurd H (by simp)
            ·rw [if_neg c13] at H
             exact absurd H (by simp)
           ·rw [if_neg c12] at H
            exact absurd H (by simp)
          ·rw [if_neg c11] at H
           exact absurd H (by simp)
         ·rw [if_neg c10] at H
          exact absurd H (by simp)
        ·rw [if_neg c9] at H
         have c9b0 : decide (x17_2 < ((rd_L4 l0 x11_1).length : Int)) = false := decide_eq_false c9; clear c9
         by_cases c35 : ((rd_L4 l0 x11_1).length : Int) > 0
         ·rw [if_pos c35] at H
          have c35b0 : decide (0 < ((rd_L4 l0 x11_1).length : Int)) = true := decide_eq_true c35; have c35b1 : decide (0 < (rd_L4 l0 x11_1).length) = true := decide_eq_true (by omega); clear c35
          by_cases c36 : x173004_1.length < 17592186044416
          ·rw [if_pos c36] at H
           have LMc36 := aK c36; clear c36; obtain ⟨y188, hy188⟩ : ∃ y_ : List Int, y_ = (x173004_1 ++ [wrap64 ((x173000_2.length : Int) - 1)]) := ⟨_, rfl⟩; replace H : (serifref09_New.l0 k2 l0 (l0.length : Int) (wrap64 (x11_1 + 1)) x173000_2 x173001_2 x173002_2 x173003_2 y188) = some (r1, r2, r3, r4, r5) := by first | (rw [hy188]; with_reducible exact H) | (have H2_ := (Option.bind_some _ _).symm.trans H; rw [hy188]; with_reducible exact H2_) | (have H2_ := (Option.bind_some _ _).symm.trans H; with_reducible exact H2_) | with_reducible exact H | (rw [hy188]; exact H) | exact H
           have Ny188 := aK hy188; clear hy188; have H' := aK H; clear H; have hnb37 := NB172_171.out; have hnc37 := NB171_172.out; have hcz38_0 := bc BK172.out 0 rfl; have hcz38_1 := bc BK172.out 1 rfl; have hcz38_2 := bc BK172.out 2 rfl; have hcz38_3 := bc BK172.out 3 rfl; have hcz38_4 := bc BK172.out 4 rfl; have hfz38_0 := bF BK172.out 0; have hfz38_1 := bF BK172.out 1; have hfz38_2 := bF BK172.out 2; have hfz38_3 := bF BK172.out 3; have hfz38_4 := bF BK172.out 4; obtain ⟨Ao39, co39, eo39⟩ := Kd.R_slice HO_173000.out; subst eo39
           go_wp2_with (first | ((with_reducible refine gate_builtin (b := .append) (xs := #[.tmp 56, .tmp 61]) rfl ?_); at_builtin; refine Kd.R_append (Kd.int .i64) (w0 := w) w.heap.size rfl (.tmp 56) (.tmp 61) 28 3 (.int .i64 0) 8 rfl Try.underlying28 info3 rfl (by decide) (by omega) u173004 x173004_1 (wrap64 ((x173000_2.length : Int) - 1)) [.int .i64 (wrap64 ((x173000_2.length : Int) - 1))] (fun _ => True) (fun _ => False) rfl rfl ?aP (fun _ hk => hk.elim) ?aF ?aO ?aB ?aS ?aL ?_; (case aP => exact rfl); (case aB => exact (by with_reducible repeat first | exact HB.out | apply lN | apply lD | refine lS ?_ GE171.out | refine lS ?_ GE172.out)); (case aF => exact (fun _ _ => trivial)); (case aO => exact HO_173004.out); (case aS => exact (lZ (by with_reducible repeat first | exact HB.out | apply lN | apply lD | refine lS ?_ GE171.out | refine lS ?_ GE172.out))); (case aL => have := LMc36.out; omega); intro v189 w40 ho hb hg hat; rw [← Ny188.out] at ho; have HO190 := aK (ho); replace HO_173000 := aK (Kd.R_over' HO_173000.out (Kd.R_typed HO_173004.out) (by decide) hg); replace HO_173001 := aK (Kd.R_over' HO_173001.out (Kd.R_typed HO_173004.out) (by decide) hg); replace HO_173002 := aK (Kd.R_over' HO_173002.out (Kd.R_typed HO_173004.out) (by decide) hg); replace HO_173003 := aK (Kd.R_over' HO_173003.out (Kd.R_typed HO_173004.out) (by decide) hg); replace BK171 := aK (bG BK171.out hg (Kd.R_ne HO_173004.out BK171.out (by decide))); replace BK172 := aK (bG BK172.out hg (Kd.R_ne HO_173004.out BK172.out (by decide))); replace HB := aK (hb); (try clear HO_173004); clear ho hb hg hat; obtain ⟨Ao41, co41, eo41⟩ := Kd.R_slice HO190.out; subst eo41; have hcz42_0 := bc BK172.out 0 rfl; have hcz42_1 := bc BK172.out 1 rfl; have hcz42_2 := bc BK172.out 2 rfl; have hcz42_3 := bc BK172.out 3 rfl; have hcz42_4 := bc BK172.out 4 rfl; have hfz42_0 := bF BK172.out 0; have hfz42_1 := bF BK172.out 1; have hfz42_2 := bF BK172.out 2; have hfz42_3 := bF BK172.out 3; have hfz42_4 := bF BK172.out 4))
           go_roundg k2
           case measure => have := HK1.out; have := HK2.out; omega
           case rel => exact ⟨(wrap64 (x11_1 + 1)), (x173000_2), (x173001_2), (x173002_2), (x173003_2), (y188), (.slice Ao39 x173000_2.length co39), (u173001), (u173002), (u173003), (.slice Ao41 y188.length co41), (by first | rfl | (simp; done) | (simp [*]; done)), H', ⟨by have := HK1.out; have := HK2.out; omega⟩, ⟨rM (st1 HO_173000.out BK172.out (by decide)) (fun _ hk => hk)⟩, ⟨rM (st1 HO_173001.out BK172.out (by decide)) (fun _ hk => hk)⟩, ⟨rM (st1 HO_173002.out BK172.out (by decide)) (fun _ hk => hk)⟩, ⟨rM (st1 HO_173003.out BK172.out (by decide)) (fun _ hk => hk)⟩, ⟨rM (st1 HO190.out BK172.out (by decide)) (fun _ hk => trivial)⟩, ⟨(bR BK171.out NB171_172.out _)⟩, ⟨(bP (cs := #[.slice Ao39 x173000_2.length co39, u173001, u173002, u173003, u173004]) BK172.out 4 _ rfl)⟩, ⟨by with_reducible repeat first | exact HB.out | apply lN | apply lD | refine lS ?_ GE171.out | refine lS ?_ GE172.out⟩⟩
          ·rw [if_neg c36] at H
           exact absurd H (by simp)
         ·rw [if_neg c35] at H
          have c35b0 : decide (0 < ((rd_L4 l0 x11_1).length : Int)) = false := decide_eq_false c35; have c35b1 : decide (0 < (rd_L4 l0 x11_1).length) = false := decide_eq_false (by omega); clear c35; have H' := aK H; clear H
          go_wp2
          go_roundg k2
          case measure => have := HK1.out; have := HK2.out; omega
          case rel => exact ⟨(wrap64 (x11_1 + 1)), (x173000_2), (x173001_2), (x173002_2), (x173003_2), (x173004_1), (u173000), (u173001), (u173002), (u173003), (u173004), (by first | rfl | (simp; done) | (simp [*]; done)), H', ⟨by have := HK1.out; have := HK2.out; omega⟩, ⟨by (with_reducible repeat (first | apply rA | apply rN | apply rD)); exact HO_173000.out⟩, ⟨by (with_reducible repeat (first | apply rA | apply rN | apply rD)); exact HO_173001.out⟩, ⟨by (with_reducible repeat (first | apply rA | apply rN | apply rD)); exact HO_173002.out⟩, ⟨by (with_reducible repeat (first | apply rA | apply rN | apply rD)); exact HO_173003.out⟩, ⟨by (with_reducible repeat (first | apply rA | apply rN | apply rD)); exact HO_173004.out⟩, ⟨BK171.out⟩, ⟨BK172.out⟩, ⟨by with_reducible repeat first | exact HB.out | apply lN | apply lD | refine lS ?_ GE171.out | refine lS ?_ GE172.out⟩⟩
     ·rw [if_neg c8] at H
      exact absurd H (by simp)
    ·rw [if_neg c7] at H
     exact absurd H (by simp)
   ·rw [if_neg c6] at H
    have c6b0 : decide (x11_1 < (l0.length : Int)) = false := decide_eq_false c6; clear c6
    simp only [Option.some.injEq, Prod.mk.injEq] at H
    obtain ⟨rfl, rfl, rfl, rfl, rfl⟩ := H; have hnb43 := NB172_171.out; have hnc43 := NB171_172.out; have hcz44_0 := bc BK172.out 0 rfl; have hcz44_1 := bc BK172.out 1 rfl; have hcz44_2 := bc BK172.out 2 rfl; have hcz44_3 := bc BK172.out 3 rfl; have hcz44_4 := bc BK172.out 4 rfl; have hfz44_0 := bF BK172.out 0; have hfz44_1 := bF BK172.out 1; have hfz44_2 := bF BK172.out 2; have hfz44_3 := bF BK172.out 3; have hfz44_4 := bF BK172.out 4; obtain ⟨Ao45, co45, eo45⟩ := Kd.R_slice HO_173000.out; subst eo45; have hcz46_0 := bc BK171.out 0 rfl; have hcz46_1 := bc BK171.out 1 rfl; have hcz46_2 := bc BK171.out 2 rfl; have hcz46_3 := bc BK171.out 3 rfl; have hcz46_4 := bc BK171.out 4 rfl; have hfz46_0 := bF BK171.out 0; have hfz46_1 := bF BK171.out 1; have hfz46_2 := bF BK171.out 2; have hfz46_3 := bF BK171.out 3; have hfz46_4 := bF BK171.out 4; obtain ⟨Ao47, co47, eo47⟩ := Kd.R_slice HO_173001.out; subst eo47; obtain ⟨Ao48, co48, eo48⟩ := Kd.R_slice HO_173002.out; subst eo48; obtain ⟨Ao49, co49, eo49⟩ := Kd.R_slice HO_173003.out; subst eo49; obtain ⟨Ao50, co50, eo50⟩ := Kd.R_slice HO_173004.out; subst eo50
    go_wp2
    refine bodyPost_ret (results_cell_row rfl _ _ gb171 30 #[.slice Ao45 x173000_1.length co45, .slice Ao47 x173001_1.length co47, .slice Ao48 x173002_1.length co48, .slice Ao49 x173003_1.length co49, .slice Ao50 x173004_1.length co50] (0, 0) _ rfl (by (with_reducible repeat (first | refine bN ?_ _ | refine bD ?_ | refine bA ?_ _)); refine bP (cs := #[.slice Ao45 x173000_1.length co45, .slice Ao47 x173001_1.length co47, .slice Ao48 x173002_1.length co48, .slice Ao49 x173003_1.length co49, .slice none 0 0]) ?_ 4 _ rfl; (with_reducible repeat (first | refine bN ?_ _ | refine bD ?_ | refine bA ?_ _)); refine bP (cs := #[.slice Ao45 x173000_1.length co45, .slice Ao47 x173001_1.length co47, .slice Ao48 x173002_1.length co48, .slice none 0 0, .slice none 0 0]) ?_ 3 _ rfl; (with_reducible repeat (first | refine bN ?_ _ | refine bD ?_ | refine bA ?_ _)); refine bP (cs := #[.slice Ao45 x173000_1.length co45, .slice Ao47 x173001_1.length co47, .slice none 0 0, .slice none 0 0, .slice none 0 0]) ?_ 2 _ rfl; (with_reducible repeat (first | refine bN ?_ _ | refine bD ?_ | refine bA ?_ _)); refine bP (cs := #[.slice Ao45 x173000_1.length co45, .slice none 0 0, .slice none 0 0, .slice none 0 0, .slice none 0 0]) ?_ 1 _ rfl; (with_reducible repeat (first | refine bN ?_ _ | refine bD ?_ | refine bA ?_ _)); refine bP (cs := #[.slice none 0 0, .slice none 0 0, .slice none 0 0, .slice none 0 0, .slice none 0 0]) ?_ 0 _ rfl; (with_reducible repeat (first | refine bN ?_ _ | refine bD ?_ | refine bA ?_ _)); exact BK171.out) Try.underlying30 rfl (by kernel_rfl)) rfl ?_
    exact ⟨_, _, _, _, _, by first | rfl | (simp [errW_none, errW_some] <;> rfl) | (simp [*, errW_none, errW_some] <;> rfl), by (with_reducible repeat (first | apply rA | apply rN | apply rD)); exact rM (rF (p := ⟨gb171, 4, none⟩) (rF (p := ⟨gb171, 3, none⟩) (rF (p := ⟨gb171, 2, none⟩) (rF (p := ⟨gb171, 1, none⟩) (rF (p := ⟨gb171, 0, none⟩) (rT HO_173000.out BK171.out (by decide)) (fun _ hk => hk.2) (.slice Ao45 x173000_1.length co45)) (fun _ hk => hk.2) (.slice Ao47 x173001_1.length co47)) (fun _ hk => hk.2) (.slice Ao48 x173002_1.length co48)) (fun _ hk => hk.2) (.slice Ao49 x173003_1.length co49)) (fun _ hk => hk.2) (.slice Ao50 x173004_1.length co50)) (fun _ hk => hk.1), by (with_reducible repeat (first | apply rA | apply rN | apply rD)); exact rM (rF (p := ⟨gb171, 4, none⟩) (rF (p := ⟨gb171, 3, none⟩) (rF (p := ⟨gb171, 2, none⟩) (rF (p := ⟨gb171, 1, none⟩) (rF (p := ⟨gb171, 0, none⟩) (rT HO_173001.out BK171.out (by decide)) (fun _ hk => hk.2) (.slice Ao45 x173000_1.length co45)) (fun _ hk => hk.2) (.slice Ao47 x173001_1.length co47)) (fun _ hk => hk.2) (.slice Ao48 x173002_1.length co48)) (fun _ hk => hk.2) (.slice Ao49 x173003_1.length co49)) (fun _ hk => hk.2) (.slice Ao50 x173004_1.length co50)) (fun _ hk => hk.1), by (with_reducible repeat (first | apply rA | apply rN | apply rD)); exact rM (rF (p := ⟨gb171, 4, none⟩) (rF (p := ⟨gb171, 3, none⟩) (rF (p := ⟨gb171, 2, none⟩) (rF (p := ⟨gb171, 1, none⟩) (rF (p := ⟨gb171, 0, none⟩) (rT HO_173002.out BK171.out (by decide)) (fun _ hk => hk.2) (.slice Ao45 x173000_1.length co45)) (fun _ hk => hk.2) (.slice Ao47 x173001_1.length co47)) (fun _ hk => hk.2) (.slice Ao48 x173002_1.length co48)) (fun _ hk => hk.2) (.slice Ao49 x173003_1.length co49)) (fun _ hk => hk.2) (.slice Ao50 x173004_1.length co50)) (fun _ hk => hk.1), by (with_reducible repeat (first | apply rA | apply rN | apply rD)); exact rM (rF (p := ⟨gb171, 4, none⟩) (rF (p := ⟨gb171, 3, none⟩) (rF (p := ⟨gb171, 2, none⟩) (rF (p := ⟨gb171, 1, none⟩) (rF (p := ⟨gb171, 0, none⟩) (rT HO_173003.out BK171.out (by decide)) (fun _ hk => hk.2) (.slice Ao45 x173000_1.length co45)) (fun _ hk => hk.2) (.slice Ao47 x173001_1.length co47)) (fun _ hk => hk.2) (.slice Ao48 x173002_1.length co48)) (fun _ hk => hk.2) (.slice Ao49 x173003_1.length co49)) (fun _ hk => hk.2) (.slice Ao50 x173004_1.length co50)) (fun _ hk => hk.1), by (with_reducible repeat (first | apply rA | apply rN | apply rD)); exact rM (rF (p := ⟨gb171, 4, none⟩) (rF (p := ⟨gb171, 3, none⟩) (rF (p := ⟨gb171, 2, none⟩) (rF (p := ⟨gb171, 1, none⟩) (rF (p := ⟨gb171, 0, none⟩) (rT HO_173004.out BK171.out (by decide)) (fun _ hk => hk.2) (.slice Ao45 x173000_1.length co45)) (fun _ hk => hk.2) (.slice Ao47 x173001_1.length co47)) (fun _ hk => hk.2) (.slice Ao48 x173002_1.length co48)) (fun _ hk => hk.2) (.slice Ao49 x173003_1.length co49)) (fun _ hk => hk.2) (.slice Ao50 x173004_1.length co50)) (fun _ hk => trivial), by with_reducible repeat first | exact HB.out | apply lN | apply lD | refine lS ?_ GE171.out | refine lS ?_ GE172.out⟩

/-! ### fixed_Check: function 40 -/
def fixed_Check.f (a0 : Int) : Option (Int) := if a0 < (-2147483647) then (some 14) else (if a0 > 2147483647 then (some 14) else (some 0))
set_option maxHeartbeats 8000000 in
set_option maxRecDepth 100000 in
theorem fixed_Check.calls (a0 : Int) (r : Int) (w : World) (h : fixed_Check.f a0 = some r) :
  Calls Try.prog 40 #[.int .i64 a0] w fun e w' => e = .returned (.int .i64 r) ∧ Drawn0 w w' := by
 have H : (if a0 < (-2147483647) then (some 14) else (if a0 > 2147483647 then (some 14) else (some 0))) = some r := h; clear h
 by_cases c2 : a0 < (-2147483647)
 ·rw [if_pos c2] at H
  have c2b0 : decide (a0 < (-2147483647)) = true := decide_eq_true c2; clear c2; obtain rfl := Option.some.inj H
  go_enter Try.func40, Try.ntmps40
  go_wp2
  go_ret
  exact ⟨by first | rfl | (simp; done) | (simp [*]; done), by repeat (first | exact Drawn0.refl _ | apply Drawn0.step)⟩
 ·rw [if_neg c2] at H
  have c2b0 : decide (a0 < (-2147483647)) = false := decide_eq_false c2; clear c2
  by_cases c3 : a0 > 2147483647
  ·rw [if_pos c3] at H
   have c3b0 : decide (2147483647 < a0) = true := decide_eq_true c3; clear c3; obtain rfl := Option.some.inj H
   go_enter Try.func40, Try.ntmps40
   go_wp2
   go_ret
   exact ⟨by first | rfl | (simp; done) | (simp [*]; done), by repeat (first | exact Drawn0.refl _ | apply Drawn0.step)⟩
  ·rw [if_neg c3] at H
   have c3b0 : decide (2147483647 < a0) = false := decide_eq_false c3; clear c3; obtain rfl := Option.some.inj H
   go_enter Try.func40, Try.ntmps40
   go_wp2
   go_ret
   exact ⟨by first | rfl | (simp; done) | (simp [*]; done), by repeat (first | exact Drawn0.refl _ | apply Drawn0.step)⟩

/-! ### gstate_fits: function 50 -/
def gstate_fits.f (a0_0 : Int) (a0_1 : Int) : Option (Bool) := (fixed_Check.f a0_0).bind fun t192 => (if t192 = 0 then ((fixed_Check.f a0_1).bind fun t193 => (some (t193 == 0))) else (some false))
set_option maxHeartbeats 8000000 in
set_option maxRecDepth 100000 in
theorem gstate_fits.calls (a0_0 : Int) (a0_1 : Int) (r : Bool) (w : World) (h : gstate_fits.f a0_0 a0_1 = some r) :
  Calls Try.prog 50 #[.agg #[.int .i64 a0_0, .int .i64 a0_1]] w fun e w' => e = .returned (.bool r) ∧ Below w.heap.size w w' := by
 have hu43 := Try.underlying43; have HB := aK (Below.refl w.heap.size w); have H : ((fixed_Check.f a0_0).bind fun t192 => (if t192 = 0 then ((fixed_Check.f a0_1).bind fun t193 => (some (t193 == 0))) else (some false))) = some r := h; clear h; replace H := Option.bind_eq_some_iff.mp H; obtain ⟨t192, A20, H⟩ := H; replace H : (if t192 = 0 then ((fixed_Check.f a0_1).bind fun t193 => (some (t193 == 0))) else (some false)) = some r := H; have A2 := aK A20; clear A20
 by_cases c3 : t192 = 0
 ·rw [if_pos c3] at H
  have c3b0 : (t192 == 0) = true := beq_iff_eq.mpr c3; have c3b1 : (t192 != 0) = false := bne_eq_false_iff_eq.mpr c3; clear c3; replace H := Option.bind_eq_some_iff.mp H; obtain ⟨t193, A40, H⟩ := H; replace H : (some (t193 == 0)) = some r := H; have A4 := aK A40; clear A40; obtain rfl := Option.some.inj H
  go_enter Try.func50, Try.ntmps50
  go_wp2_with (first | ((with_reducible refine gate_dst (N := 1) rfl ?_); refine box_event ?hg (N := 1) ?hd (cs := #[.int .i64 a0_0, .int .i64 a0_1]) (t := 43) ?hr ?_; (case hd => rfl); (case hg => rfl); (case hr => first | (go_simp; done) | (go_simp; rfl)); intro gb191 hg w5 hbox hb; have BK191 := aK (hbox); have GW191 := aK ((by rw [hg]; exact (lZ (by with_reducible repeat first | exact HB.out | apply lN | apply lD)) : w.heap.size ≤ gb191)); have GE191 := aK ((by rw [hg]; exact (lZ (by with_reducible repeat first | exact HB.out | apply lN | apply lD)) : w.heap.size ≤ gb191)); replace HB := aK (lT HB.out hb); clear hb hbox hg; have hcz6_0 := bc BK191.out 0 rfl; have hcz6_1 := bc BK191.out 1 rfl; have hfz6_0 := bF BK191.out 0; have hfz6_1 := bF BK191.out 1) | ((with_reducible refine gate_callee (f := 40) rfl ?_); refine goesL_ (some 5) rfl rfl Try.func40 (by kernel_rfl) rfl #[.int .i64 a0_0] rfl (by (try simp only [List.map_toArray, List.map_cons, List.map_nil]); first | done | rfl | (simp only [List.length_drop, List.length_take]; rfl)) ?_; (with_reducible refine (fixed_Check.calls a0_0 t192 _ A2.out).mono ?_); rintro e w' ⟨rfl, ⟨nd, rfl⟩⟩; refine ⟨_, rfl, ?_⟩) | (go_at_call 40; (with_reducible refine (fixed_Check.calls a0_1 t193 _ A4.out).mono ?_); rintro e w' ⟨rfl, ⟨nd, rfl⟩⟩))
  go_ret
  exact ⟨by first | rfl | (simp [errW_none, errW_some] <;> rfl) | (simp [*, errW_none, errW_some] <;> rfl), by with_reducible repeat first | exact HB.out | apply lN | apply lD | refine lS ?_ GE191.out⟩
 ·rw [if_neg c3] at H
  have c3b0 : (t192 == 0) = false := beq_eq_false_iff_ne.mpr c3; have c3b1 : (t192 != 0) = true := bne_iff_ne.mpr c3; obtain rfl := Option.some.inj H
  go_enter Try.func50, Try.ntmps50
  go_wp2_with (first | ((with_reducible refine gate_dst (N := 1) rfl ?_); refine box_event ?hg (N := 1) ?hd (cs := #[.int .i64 a0_0, .int .i64 a0_1]) (t := 43) ?hr ?_; (case hd => rfl); (case hg => rfl); (case hr => first | (go_simp; done) | (go_simp; rfl)); intro gb191 hg w7 hbox hb; have BK191 := aK (hbox); have GW191 := aK ((by rw [hg]; exact (lZ (by with_reducible repeat first | exact HB.out | apply lN | apply lD)) : w.heap.size ≤ gb191)); have GE191 := aK ((by rw [hg]; exact (lZ (by with_reducible repeat first | exact HB.out | apply lN | apply lD)) : w.heap.size ≤ gb191)); replace HB := aK (lT HB.out hb); clear hb hbox hg; have hcz8_0 := bc BK191.out 0 rfl; have hcz8_1 := bc BK191.out 1 rfl; have hfz8_0 := bF BK191.out 0; have hfz8_1 := bF BK191.out 1) | ((with_reducible refine gate_callee (f := 40) rfl ?_); refine goesL_ (some 5) rfl rfl Try.func40 (by kernel_rfl) rfl #[.int .i64 a0_0] rfl (by (try simp only [List.map_toArray, List.map_cons, List.map_nil]); first | done | rfl | (simp only [List.length_drop, List.length_take]; rfl)) ?_; (with_reducible refine (fixed_Check.calls a0_0 t192 _ A2.out).mono ?_); rintro e w' ⟨rfl, ⟨nd, rfl⟩⟩; refine ⟨_, rfl, ?_⟩))
  go_ret
  exact ⟨by first | rfl | (simp [errW_none, errW_some] <;> rfl) | (simp [*, errW_none, errW_some] <;> rfl), by with_reducible repeat first | exact HB.out | apply lN | apply lD | refine lS ?_ GE191.out⟩

/-! ### gstate_Sound_1: function 49 -/
def gstate_Sound_1.f (a0_0 : Int) (a0_1 : Int) : Option (Bool) := (gstate_fits.f a0_0 a0_1).bind fun t195 => (some (!t195))
set_option maxHeartbeats 8000000 in
set_option maxRecDepth 100000 in
theorem gstate_Sound_1.calls (a0_0 : Int) (a0_1 : Int) (r : Bool) (w : World) (h : gstate_Sound_1.f a0_0 a0_1 = some r) :
  Calls Try.prog 49 #[.agg #[.int .i64 a0_0, .int .i64 a0_1]] w fun e w' => e = .returned (.bool r) ∧ Below w.heap.size w w' := by
 have hu43 := Try.underlying43; have HB := aK (Below.refl w.heap.size w); have H : ((gstate_fits.f a0_0 a0_1).bind fun t195 => (some (!t195))) = some r := h; clear h; replace H := Option.bind_eq_some_iff.mp H; obtain ⟨t195, A20, H⟩ := H; replace H : (some (!t195)) = some r := H; have A2 := aK A20; clear A20; obtain rfl := Option.some.inj H
 go_enter Try.func49, Try.ntmps49
 go_wp2_with (first | ((with_reducible refine gate_dst (N := 1) rfl ?_); refine box_event ?hg (N := 1) ?hd (cs := #[.int .i64 a0_0, .int .i64 a0_1]) (t := 43) ?hr ?_; (case hd => rfl); (case hg => rfl); (case hr => first | (go_simp; done) | (go_simp; rfl)); intro gb194 hg w3 hbox hb; have BK194 := aK (hbox); have GW194 := aK ((by rw [hg]; exact (lZ (by with_reducible repeat first | exact HB.out | apply lN | apply lD)) : w.heap.size ≤ gb194)); have GE194 := aK ((by rw [hg]; exact (lZ (by with_reducible repeat first | exact HB.out | apply lN | apply lD)) : w.heap.size ≤ gb194)); replace HB := aK (lT HB.out hb); clear hb hbox hg; have hcz4_0 := bc BK194.out 0 rfl; have hcz4_1 := bc BK194.out 1 rfl; have hfz4_0 := bF BK194.out 0; have hfz4_1 := bF BK194.out 1) | ((with_reducible refine gate_callee (f := 50) rfl ?_); refine goesL_ (some 4) rfl rfl Try.func50 (by kernel_rfl) rfl #[.agg #[.int .i64 a0_0, .int .i64 a0_1]] rfl (by (try simp only [List.map_toArray, List.map_cons, List.map_nil]); first | done | rfl | (simp only [List.length_drop, List.length_take]; rfl)) ?_; (with_reducible refine (gstate_fits.calls a0_0 a0_1 t195 _ A2.out).mono ?_); rintro e w5 ⟨rfl, hb⟩; refine ⟨_, rfl, ?_⟩; replace BK194 := aK (bB BK194.out hb); replace HB := aK (lT (by with_reducible repeat first | exact HB.out | refine lS ?_ GE194.out) hb); (try clear hb); (try clear hb2); (try clear hk); (try clear hi)))
 go_ret
 exact ⟨by first | rfl | (simp [errW_none, errW_some] <;> rfl) | (simp [*, errW_none, errW_some] <;> rfl), by with_reducible repeat first | exact HB.out | apply lN | apply lD | refine lS ?_ GE194.out⟩

/-! ### api_Spot_66: function 66 -/
def api_Spot_66.l0 : Nat → List (S43) → Int → Int → Option (Int)
 | 0, _, _, _ => none
 | k + 1, x0, x7, x8 => if x8 < x7 then (if 0 ≤ x8 then (if x8 < (x0.length : Int) then ((gstate_Sound_1.f ((rd_T43 x0 x8).f0) ((rd_T43 x0 x8).f1)).bind fun t197 => (if t197 = true then (some x8) else (api_Spot_66.l0 k x0 x7 (wrap64 (x8 + 1))))) else (none)) else (none)) else (some (-1))
def api_Spot_66.f (k : Nat) (l0 : List (S43)) : Option (Int) := api_Spot_66.l0 k l0 (l0.length : Int) 0
theorem api_Spot_66.mono_l : ∀ k, (∀ y0 y1 y2, LeO (api_Spot_66.l0 k y0 y1 y2) (api_Spot_66.l0 (k + 1) y0 y1 y2))
 | 0 => fun _ _ _ r h => by simp [api_Spot_66.l0] at h
 | k + 1 => by
  have ih0 := api_Spot_66.mono_l k
  ·intro y0 y1 y2
   unfold api_Spot_66.l0
   repeat' first
   | (with_reducible exact ih0 _ _ _)
   | (with_reducible exact LeO.refl _)
   | (with_reducible exact LeO.none _)
   | (with_reducible refine LeO.ite ?_ ?_)
   | (with_reducible refine LeO.bind ?_ (fun _ => ?_))
   | exact ih0 _ _ _
   | exact LeO.none _
   | refine LeO.ite ?_ ?_
   | refine LeO.bind ?_ (fun _ => ?_)
theorem api_Spot_66.mono : ∀ a0 k, LeO (api_Spot_66.f k a0) (api_Spot_66.f (k + 1) a0) := by
 intro a0 k
 have ih0 := api_Spot_66.mono_l k
 unfold api_Spot_66.f
 repeat' first
   | (with_reducible exact ih0 _ _ _)
   | (with_reducible exact LeO.refl _)
   | (with_reducible exact LeO.none _)
   | (with_reducible refine LeO.ite ?_ ?_)
   | (with_reducible refine LeO.bind ?_ (fun _ => ?_))
   | exact ih0 _ _ _
   | exact LeO.none _
   | refine LeO.ite ?_ ?_
   | refine LeO.bind ?_ (fun _ => ?_)
set_option maxHeartbeats 8000000 in
set_option maxRecDepth 100000 in
theorem api_Spot_66.calls (k : Nat) (A0 : Option Addr) (c0 : Nat) (l0 : List (S43)) (r : Int) (w : World) (hr0 : Kd.C k43 w A0 l0.length l0) (hc0 : l0.length ≤ c0) (h : api_Spot_66.f k l0 = some r) :
  Calls Try.prog 66 #[.slice A0 l0.length c0, .func (.func 49) #[] #[]] w fun e w' => e = .returned (.int .i64 r) ∧ Below w.heap.size w w' := by
 have hu43 := Try.underlying43; have HR0 := aK hr0; have HC0 := aK hc0; clear hr0 hc0; have HB := aK (Below.refl w.heap.size w); have H : (api_Spot_66.l0 k l0 (l0.length : Int) 0) = some r := h; clear h; have H' := aK H; clear H
 go_enter Try.func66, Try.ntmps66
 go_wp2
 go_loopg [8] k (fun kq v8 w' => ∃ (x8_1 : Int), v8 = .int .i64 x8_1 ∧ Aside0 (api_Spot_66.l0 kq l0 (l0.length : Int) x8_1 = some r) ∧ Aside0 (kq ≤ k) ∧ Aside0 (Below w.heap.size w w'))
 case atStart => exact ⟨(0), (by first | rfl | (simp; done) | (simp [*]; done)), H', ⟨Nat.le_refl _⟩, ⟨by with_reducible repeat first | exact HB.out | apply lN | apply lD⟩⟩
 case round =>
  clear H'; obtain ⟨x8_1, rfl, HA, HK1, HB⟩ := hrel
  cases gk with
  | zero => exact absurd HA.out (by simp [api_Spot_66.l0])
  | succ k1 =>
   have H := HA.out; clear HA
   simp only [api_Spot_66.l0] at H
   by_cases c2 : x8_1 < (l0.length : Int)
   ·rw [if_pos c2] at H
    have c2b0 : decide (x8_1 < (l0.length : Int)) = true := decide_eq_true c2; clear c2
    by_cases c3 : 0 ≤ x8_1
    ·rw [if_pos c3] at H
     have c3b0 : decide (0 ≤ x8_1) = true := decide_eq_true c3; clear c3
     by_cases c4 : x8_1 < (l0.length : Int)
     ·rw [if_pos c4] at H
      have c4b0 : decide (x8_1 < (l0.length : Int)) = true := decide_eq_true c4; clear c4; replace H := Option.bind_eq_some_iff.mp H; obtain ⟨t197, A50, H⟩ := H; replace H : (if t197 = true then (some x8_1) else (api_Spot_66.l0 k1 l0 (l0.length : Int) (wrap64 (x8_1 + 1)))) = some r := H; have A5 := aK A50; clear A50
      by_cases c6 : t197 = true
      ·subst c6
       have H1 : (some x8_1) = some r := by rw [if_pos rfl] at H; exact H
       clear H; have H := H1; clear H1; obtain rfl := Option.some.inj H; have p196 : 0 ≤ (x8_1 : Int) := of_decide_eq_true (by first | (with_reducible assumption) | assumption); have q196 : x8_1 < (l0.length : Int) := of_decide_eq_true (by first | (with_reducible assumption) | assumption); obtain ⟨ad196, e196, hx196_0, hx196_1⟩ := at_T43 HR0.out x8_1 p196 q196
       cases e196
       replace hx196_0 := (HB.out.cell (World.block_lt_of_cell? w _ hx196_0)).trans hx196_0; replace hx196_1 := (HB.out.cell (World.block_lt_of_cell? w _ hx196_1)).trans hx196_1; replace p196 := eq_true p196; replace q196 := eq_true q196
       go_wp2_with (first | (refine Go.Proofs.Ytneiaobhjjbedaa.goesV_ (some 16) rfl rfl (o := .tmp 11) Try.func49 (by kernel_rfl) rfl #[.agg #[.int .i64 ((rd_T43 l0 x8_1).f0), .int .i64 ((rd_T43 l0 x8_1).f1)]] rfl rfl (by (try simp only [List.map_toArray, List.map_cons, List.map_nil]); first | done | rfl | (simp only [List.length_drop, List.length_take]; rfl)) ?_; (with_reducible refine (gstate_Sound_1.calls ((rd_T43 l0 x8_1).f0) ((rd_T43 l0 x8_1).f1) true _ A5.out).mono ?_); rintro e w7 ⟨rfl, hb⟩; refine ⟨_, rfl, ?_⟩; replace HB := aK (lT HB.out hb); (try clear hb); (try clear hb2); (try clear hk); (try clear hi)))
       go_ret
       exact ⟨by first | rfl | (simp [errW_none, errW_some] <;> rfl) | (simp [*, errW_none, errW_some] <;> rfl), by with_reducible repeat first | exact HB.out | apply lN | apply lD⟩
      ·replace c6 := Bool.eq_false_iff.mpr c6
       subst c6; have H1 : (api_Spot_66.l0 k1 l0 (l0.length : Int) (wrap64 (x8_1 + 1))) = some r := by rw [if_neg (show ¬ (false = true) by decide)] at H; exact H
       clear H; have H := H1; clear H1; have H' := aK H; clear H; have p196 : 0 ≤ (x8_1 : Int) := of_decide_eq_true (by first | (with_reducible assumption) | assumption); have q196 : x8_1 < (l0.length : Int) := of_decide_eq_true (by first | (with_reducible assumption) | assumption); obtain ⟨ad196, e196, hx196_0, hx196_1⟩ := at_T43 HR0.out x8_1 p196 q196
       cases e196
       replace hx196_0 := (HB.out.cell (World.block_lt_of_cell? w _ hx196_0)).trans hx196_0; replace hx196_1 := (HB.out.cell (World.block_lt_of_cell? w _ hx196_1)).trans hx196_1; replace p196 := eq_true p196; replace q196 := eq_true q196
       go_wp2_with (first | (refine Go.Proofs.Ytneiaobhjjbedaa.goesV_ (some 16) rfl rfl (o := .tmp 11) Try.func49 (by kernel_rfl) rfl #[.agg #[.int .i64 ((rd_T43 l0 x8_1).f0), .int .i64 ((rd_T43 l0 x8_1).f1)]] rfl rfl (by (try simp only [List.map_toArray, List.map_cons, List.map_nil]); first | done | rfl | (simp only [List.length_drop, List.length_take]; rfl)) ?_; (with_reducible refine (gstate_Sound_1.calls ((rd_T43 l0 x8_1).f0) ((rd_T43 l0 x8_1).f1) false _ A5.out).mono ?_); rintro e w8 ⟨rfl, hb⟩; refine ⟨_, rfl, ?_⟩; replace HB := aK (lT HB.out hb); (try clear hb); (try clear hb2); (try clear hk); (try clear hi)))
       go_roundg k1
       case measure => have := HK1.out; omega
       case rel => exact ⟨(wrap64 (x8_1 + 1)), (by first | rfl | (simp; done) | (simp [*]; done)), H', ⟨by have := HK1.out; omega⟩, ⟨by with_reducible repeat first | exact HB.out | apply lN | apply lD⟩⟩
     ·rw [if_neg c4] at H
      exact absurd H (by simp)
    ·rw [if_neg c3] at H
     exact absurd H (by simp)
   ·rw [if_neg c2] at H
    have c2b0 : decide (x8_1 < (l0.length : Int)) = false := decide_eq_false c2; clear c2; obtain rfl := Option.some.inj H
    go_wp2
    go_ret
    exact ⟨by first | rfl | (simp [errW_none, errW_some] <;> rfl) | (simp [*, errW_none, errW_some] <;> rfl), by with_reducible repeat first | exact HB.out | apply lN | apply lD⟩

/-! ### api_Spot_51: function 51 -/
def api_Spot_51.f (k : Nat) (l0 : List (S43)) : Option (Bool) := (api_Spot_66.f k l0).bind fun t198 => (some (decide (t198 ≥ 0)))
theorem api_Spot_51.mono : ∀ a0 k, LeO (api_Spot_51.f k a0) (api_Spot_51.f (k + 1) a0) := by
 intro a0 k
 unfold api_Spot_51.f
 repeat' first
   | (with_reducible exact api_Spot_66.mono _ _)
   | (with_reducible exact LeO.refl _)
   | (with_reducible exact LeO.none _)
   | (with_reducible refine LeO.ite ?_ ?_)
   | (with_reducible refine LeO.bind ?_ (fun _ => ?_))
   | exact api_Spot_66.mono _ _
   | exact LeO.none _
   | refine LeO.ite ?_ ?_
   | refine LeO.bind ?_ (fun _ => ?_)
set_option maxHeartbeats 8000000 in
set_option maxRecDepth 100000 in
theorem api_Spot_51.calls (k : Nat) (A0 : Option Addr) (c0 : Nat) (l0 : List (S43)) (r : Bool) (w : World) (hr0 : Kd.C k43 w A0 l0.length l0) (hc0 : l0.length ≤ c0) (h : api_Spot_51.f k l0 = some r) :
  Calls Try.prog 51 #[.slice A0 l0.length c0, .func (.func 49) #[] #[]] w fun e w' => e = .returned (.bool r) ∧ Below w.heap.size w w' := by
 have HR0 := aK hr0; have HC0 := aK hc0; clear hr0 hc0; have HB := aK (Below.refl w.heap.size w); have H : ((api_Spot_66.f k l0).bind fun t198 => (some (decide (t198 ≥ 0)))) = some r := h; clear h; replace H := Option.bind_eq_some_iff.mp H; obtain ⟨t198, A20, H⟩ := H; replace H : (some (decide (t198 ≥ 0))) = some r := H; have A2 := aK A20; clear A20; obtain rfl := Option.some.inj H
 go_enter Try.func51, Try.ntmps51
 go_wp2_with (first | ((with_reducible refine gate_callee (f := 66) rfl ?_); refine goesL_ (some 7) rfl rfl Try.func66 (by kernel_rfl) rfl #[.slice A0 l0.length c0, .func (.func 49) #[] #[]] rfl (by (try simp only [List.map_toArray, List.map_cons, List.map_nil]); first | done | rfl | (simp only [List.length_drop, List.length_take]; rfl)) ?_; (with_reducible refine (api_Spot_66.calls k _ _ l0 t198 _ ?side1 ?side2 A2.out).mono ?_); (case side1 => repeat (first | exact HR0.out | (with_reducible refine cA ?_ _) | (with_reducible refine cN ?_ _) | (with_reducible refine cD ?_))); (case side2 => exact HC0.out); rintro e w3 ⟨rfl, hb⟩; refine ⟨_, rfl, ?_⟩; replace HB := aK (lT HB.out hb); (try clear hb); (try clear hb2); (try clear hk); (try clear hi)))
 go_ret
 exact ⟨by first | rfl | (simp [errW_none, errW_some] <;> rfl) | (simp [*, errW_none, errW_some] <;> rfl), by with_reducible repeat first | exact HB.out | apply lN | apply lD⟩

/-! ### gstate_Sound: function 26 -/
mutual
def gstate_Sound.j0 : Nat → Int → Bool → List (S43) → List (S43) → List Bool → List Bool → List Int → Option (Bool)
 | 0, _, _, _, _, _, _, _ => none
 | k + 1, x3, x33, x200000, x200001, x200002, x200003, x200004 => if x33 = true then (some false) else (gstate_Sound.l0 k x3 (-1) x200004 (x200004.length : Int) 0 x200000 x200001 x200002 x200003 x200004)
def gstate_Sound.l0 : Nat → Int → Int → List Int → Int → Int → List (S43) → List (S43) → List Bool → List Bool → List Int → Option (Bool)
 | 0, _, _, _, _, _, _, _, _, _, _ => none
 | k + 1, x3, x4, x35, x36, x37, x200000, x200001, x200002, x200003, x200004 => if x37 < x36 then (if 0 ≤ x37 then (if x37 < (x35.length : Int) then (if (rd x35 x37) ≤ x4 then (some false) else (if (rd x35 x37) ≥ x3 then (some false) else (gstate_Sound.l0 k x3 (rd x35 x37) x35 x36 (wrap64 (x37 + 1)) x200000 x200001 x200002 x200003 x200004))) else (none)) else (none)) else ((api_Spot_51.f k x200000).bind fun t201 => (if t201 = true then (some false) else ((api_Spot_51.f k x200001).bind fun t202 => (some (!t202)))))
end
def gstate_Sound.f (k : Nat) (l0_0 : List (S43)) (l0_1 : List (S43)) (l0_2 : List Bool) (l0_3 : List Bool) (l0_4 : List Int) : Option (Bool) := if (l0_1.length : Int) = (l0_0.length : Int) then (if (l0_2.length : Int) = (l0_0.length : Int) then (if (l0_3.length : Int) = (l0_0.length : Int) then (gstate_Sound.j0 k (l0_0.length : Int) (decide ((l0_0.length : Int) > 4096)) l0_0 l0_1 l0_2 l0_3 l0_4) else (gstate_Sound.j0 k (l0_0.length : Int) true l0_0 l0_1 l0_2 l0_3 l0_4)) else (gstate_Sound.j0 k (l0_0.length : Int) true l0_0 l0_1 l0_2 l0_3 l0_4)) else (gstate_Sound.j0 k (l0_0.length : Int) true l0_0 l0_1 l0_2 l0_3 l0_4)
theorem gstate_Sound.mono_l : ∀ k, (∀ y0 y1 y2 y3 y4 y5 y6, LeO (gstate_Sound.j0 k y0 y1 y2 y3 y4 y5 y6) (gstate_Sound.j0 (k + 1) y0 y1 y2 y3 y4 y5 y6)) ∧ (∀ y0 y1 y2 y3 y4 y5 y6 y7 y8 y9, LeO (gstate_Sound.l0 k y0 y1 y2 y3 y4 y5 y6 y7 y8 y9) (gstate_Sound.l0 (k + 1) y0 y1 y2 y3 y4 y5 y6 y7 y8 y9))
 | 0 => ⟨fun _ _ _ _ _ _ _ r h => by simp [gstate_Sound.j0] at h, fun _ _ _ _ _ _ _ _ _ _ r h => by simp [gstate_Sound.l0] at h⟩
 | k + 1 => by
  obtain ⟨ih0, ih1⟩ := gstate_Sound.mono_l k
  refine ⟨?_, ?_⟩
  ·intro y0 y1 y2 y3 y4 y5 y6
   unfold gstate_Sound.j0
   repeat' first
   | (with_reducible exact ih0 _ _ _ _ _ _ _)
   | (with_reducible exact ih1 _ _ _ _ _ _ _ _ _ _)
   | (with_reducible exact api_Spot_51.mono _ _)
   | (with_reducible exact LeO.refl _)
   | (with_reducible exact LeO.none _)
   | (with_reducible refine LeO.ite ?_ ?_)
   | (with_reducible refine LeO.bind ?_ (fun _ => ?_))
   | exact ih0 _ _ _ _ _ _ _
   | exact ih1 _ _ _ _ _ _ _ _ _ _
   | exact api_Spot_51.mono _ _
   | exact LeO.none _
   | refine LeO.ite ?_ ?_
   | refine LeO.bind ?_ (fun _ => ?_)
  ·intro y0 y1 y2 y3 y4 y5 y6 y7 y8 y9
   unfold gstate_Sound.l0
   repeat' first
   | (with_reducible exact ih0 _ _ _ _ _ _ _)
   | (with_reducible exact ih1 _ _ _ _ _ _ _ _ _ _)
   | (with_reducible exact api_Spot_51.mono _ _)
   | (with_reducible exact LeO.refl _)
   | (with_reducible exact LeO.none _)
   | (with_reducible refine LeO.ite ?_ ?_)
   | (with_reducible refine LeO.bind ?_ (fun _ => ?_))
   | exact ih0 _ _ _ _ _ _ _
   | exact ih1 _ _ _ _ _ _ _ _ _ _
   | exact api_Spot_51.mono _ _
   | exact LeO.none _
   | refine LeO.ite ?_ ?_
   | refine LeO.bind ?_ (fun _ => ?_)
theorem gstate_Sound.mono : ∀ a0 a1 a2 a3 a4 k, LeO (gstate_Sound.f k a0 a1 a2 a3 a4) (gstate_Sound.f (k + 1) a0 a1 a2 a3 a4) := by
 intro a0 a1 a2 a3 a4 k
 obtain ⟨ih0, ih1⟩ := gstate_Sound.mono_l k
 unfold gstate_Sound.f
 repeat' first
   | (with_reducible exact ih0 _ _ _ _ _ _ _)
   | (with_reducible exact ih1 _ _ _ _ _ _ _ _ _ _)
   | (with_reducible exact api_Spot_51.mono _ _)
   | (with_reducible exact LeO.refl _)
   | (with_reducible exact LeO.none _)
   | (with_reducible refine LeO.ite ?_ ?_)
   | (with_reducible refine LeO.bind ?_ (fun _ => ?_))
   | exact ih0 _ _ _ _ _ _ _
   | exact ih1 _ _ _ _ _ _ _ _ _ _
   | exact api_Spot_51.mono _ _
   | exact LeO.none _
   | refine LeO.ite ?_ ?_
   | refine LeO.bind ?_ (fun _ => ?_)
set_option maxHeartbeats 8000000 in
set_option maxRecDepth 100000 in
theorem gstate_Sound.calls (k : Nat) (A0_0 : Option Addr) (c0_0 : Nat) (l0_0 : List (S43)) (A0_1 : Option Addr) (c0_1 : Nat) (l0_1 : List (S43)) (A0_2 : Option Addr) (c0_2 : Nat) (l0_2 : List Bool) (A0_3 : Option Addr) (c0_3 : Nat) (l0_3 : List Bool) (A0_4 : Option Addr) (c0_4 : Nat) (l0_4 : List Int) (r : Bool) (w : World) (hr0_0 : Kd.C k43 w A0_0 l0_0.length l0_0) (hc0_0 : l0_0.length ≤ c0_0) (hr0_1 : Kd.C k43 w A0_1 l0_1.length l0_1) (hc0_1 : l0_1.length ≤ c0_1) (hr0_2 : Kd.C Kd.bool w A0_2 l0_2.length l0_2) (hc0_2 : l0_2.length ≤ c0_2) (hr0_3 : Kd.C Kd.bool w A0_3 l0_3.length l0_3) (hc0_3 : l0_3.length ≤ c0_3) (hr0_4 : Kd.C (Kd.int .i64) w A0_4 l0_4.length l0_4) (hc0_4 : l0_4.length ≤ c0_4) (h : gstate_Sound.f k l0_0 l0_1 l0_2 l0_3 l0_4 = some r) :
  Calls Try.prog 26 #[.agg #[.slice A0_0 l0_0.length c0_0, .slice A0_1 l0_1.length c0_1, .slice A0_2 l0_2.length c0_2, .slice A0_3 l0_3.length c0_3, .slice A0_4 l0_4.length c0_4]] w fun e w' => e = .returned (.bool r) ∧ Below w.heap.size w w' := by
 have hu30 := Try.underlying30; have HR0_0 := aK hr0_0; have HC0_0 := aK hc0_0; clear hr0_0 hc0_0; have HR0_1 := aK hr0_1; have HC0_1 := aK hc0_1; clear hr0_1 hc0_1; have HR0_2 := aK hr0_2; have HC0_2 := aK hc0_2; clear hr0_2 hc0_2; have HR0_3 := aK hr0_3; have HC0_3 := aK hc0_3; clear hr0_3 hc0_3; have HR0_4 := aK hr0_4; have HC0_4 := aK hc0_4; clear hr0_4 hc0_4; have HB := aK (Below.refl w.heap.size w); have H : (if (l0_1.length : Int) = (l0_0.length : Int) then (if (l0_2.length : Int) = (l0_0.length : Int) then (if (l0_3.length : Int) = (l0_0.length : Int) then (gstate_Sound.j0 k (l0_0.length : Int) (decide ((l0_0.length : Int) > 4096)) l0_0 l0_1 l0_2 l0_3 l0_4) else (gstate_Sound.j0 k (l0_0.length : Int) true l0_0 l0_1 l0_2 l0_3 l0_4)) else (gstate_Sound.j0 k (l0_0.length : Int) true l0_0 l0_1 l0_2 l0_3 l0_4)) else (gstate_Sound.j0 k (l0_0.length : Int) true l0_0 l0_1 l0_2 l0_3 l0_4)) = some r := h; clear h; have HC2 := aK H; clear H
 go_enter Try.func26, Try.ntmps26
 go_upto_region 2 with (first | ((with_reducible refine gate_dst (N := 1) rfl ?_); (try (refine gate_guard (by rfl) ?_; dsimp only)); refine box_event ?hg (N := 1) ?hd (cs := #[.slice A0_0 l0_0.length c0_0, .slice A0_1 l0_1.length c0_1, .slice A0_2 l0_2.length c0_2, .slice A0_3 l0_3.length c0_3, .slice A0_4 l0_4.length c0_4]) (t := 30) ?hr ?_; (case hd => rfl); (case hg => rfl); (case hr => first | (go_simp; done) | (go_simp; rfl)); intro gb199 hg w3 hbox hb; have BK199 := aK (hbox); have GW199 := aK ((by rw [hg]; exact (lZ (by with_reducible repeat first | exact HB.out | apply lN | apply lD)) : w.heap.size ≤ gb199)); have GE199 := aK ((by rw [hg]; exact (lZ (by with_reducible repeat first | exact HB.out | apply lN | apply lD)) : w.heap.size ≤ gb199)); replace HB := aK (lT HB.out hb); clear hb hbox hg; have hcz4_0 := bc BK199.out 0 rfl; have hcz4_1 := bc BK199.out 1 rfl; have hcz4_2 := bc BK199.out 2 rfl; have hcz4_3 := bc BK199.out 3 rfl; have hcz4_4 := bc BK199.out 4 rfl; have hfz4_0 := bF BK199.out 0; have hfz4_1 := bF BK199.out 1; have hfz4_2 := bF BK199.out 2; have hfz4_3 := bF BK199.out 3; have hfz4_4 := bF BK199.out 4))
 (try simp only [Act.put, List.setIfInBounds_toArray, List.set_cons_zero, List.set_cons_succ])
 go_cut [33] (fun v33 wc => ∃ (kq : Nat) (x33_1 : Bool), v33 = .bool x33_1 ∧ Aside0 (gstate_Sound.j0 kq (l0_0.length : Int) x33_1 l0_0 l0_1 l0_2 l0_3 l0_4 = some r) ∧ Aside0 (kq ≤ k) ∧ Aside0 (wc.heap[gb199]? = some (.cells #[(.slice A0_0 l0_0.length c0_0), (.slice A0_1 l0_1.length c0_1), (.slice A0_2 l0_2.length c0_2), (.slice A0_3 l0_3.length c0_3), (.slice A0_4 l0_4.length c0_4)] 30 (0, 0))) ∧ Aside0 (Below w.heap.size w wc))
 case first =>
  have H := HC2.out; clear HC2
  by_cases c5 : (l0_1.length : Int) = (l0_0.length : Int)
  ·rw [if_pos c5] at H
   have c5b0 : ((l0_1.length : Int) == (l0_0.length : Int)) = true := beq_iff_eq.mpr c5; have c5b1 : ((l0_1.length : Int) != (l0_0.length : Int)) = false := bne_eq_false_iff_eq.mpr c5; have c5b2 : (l0_1.length == l0_0.length) = true := by first | simpa using c5 | (simp at c5 ⊢; omega)
   clear c5
   (first | rw [c5b0] | (simp only [i64_w, i32_w]; rw [c5b0]) | skip)
   by_cases c6 : (l0_2.length : Int) = (l0_0.length : Int)
   ·rw [if_pos c6] at H
    have c6b0 : ((l0_2.length : Int) == (l0_0.length : Int)) = true := beq_iff_eq.mpr c6; have c6b1 : ((l0_2.length : Int) != (l0_0.length : Int)) = false := bne_eq_false_iff_eq.mpr c6; have c6b2 : (l0_2.length == l0_0.length) = true := by first | simpa using c6 | (simp at c6 ⊢; omega)
    clear c6
    by_cases c7 : (l0_3.length : Int) = (l0_0.length : Int)
    ·rw [if_pos c7] at H
     have c7b0 : ((l0_3.length : Int) == (l0_0.length : Int)) = true := beq_iff_eq.mpr c7; have c7b1 : ((l0_3.length : Int) != (l0_0.length : Int)) = false := bne_eq_false_iff_eq.mpr c7; have c7b2 : (l0_3.length == l0_0.length) = true := by first | simpa using c7 | (simp at c7 ⊢; omega)
     clear c7; have H' := aK H; clear H; have hcz8_0 := bc BK199.out 0 rfl; have hcz8_1 := bc BK199.out 1 rfl; have hcz8_2 := bc BK199.out 2 rfl; have hcz8_3 := bc BK199.out 3 rfl; have hcz8_4 := bc BK199.out 4 rfl; have hfz8_0 := bF BK199.out 0; have hfz8_1 := bF BK199.out 1; have hfz8_2 := bF BK199.out 2; have hfz8_3 := bF BK199.out 3; have hfz8_4 := bF BK199.out 4
     go_wp2
     go_meet
     case rel => exact ⟨_, (decide ((l0_0.length : Int) > 4096)), (by first | rfl | (simp; done) | (simp [*]; done)), H', ⟨by first | omega | exact Nat.le_refl _⟩, ⟨BK199.out⟩, ⟨by with_reducible repeat first | exact HB.out | apply lN | apply lD | refine lS ?_ GE199.out⟩⟩
    ·rw [if_neg c7] at H
     have c7b0 : ((l0_3.length : Int) == (l0_0.length : Int)) = false := beq_eq_false_iff_ne.mpr c7; have c7b1 : ((l0_3.length : Int) != (l0_0.length : Int)) = true := bne_iff_ne.mpr c7; have c7b2 : (l0_3.length == l0_0.length) = false := by first | simpa using c7 | (simp at c7 ⊢; omega)
     have H' := aK H; clear H; have hcz9_0 := bc BK199.out 0 rfl; have hcz9_1 := bc BK199.out 1 rfl; have hcz9_2 := bc BK199.out 2 rfl; have hcz9_3 := bc BK199.out 3 rfl; have hcz9_4 := bc BK199.out 4 rfl; have hfz9_0 := bF BK199.out 0; have hfz9_1 := bF BK199.out 1; have hfz9_2 := bF BK199.out 2; have hfz9_3 := bF BK199.out 3; have hfz9_4 := bF BK199.out 4
     go_wp2
     go_meet
     case rel => exact ⟨_, (true), (by first | rfl | (simp; done) | (simp [*]; done)), H', ⟨by first | omega | exact Nat.le_refl _⟩, ⟨BK199.out⟩, ⟨by with_reducible repeat first | exact HB.out | apply lN | apply lD | refine lS ?_ GE199.out⟩⟩
   ·rw [if_neg c6] at H
    have c6b0 : ((l0_2.length : Int) == (l0_0.length : Int)) = false := beq_eq_false_iff_ne.mpr c6; have c6b1 : ((l0_2.length : Int) != (l0_0.length : Int)) = true := bne_iff_ne.mpr c6; have c6b2 : (l0_2.length == l0_0.length) = false := by first | simpa using c6 | (simp at c6 ⊢; omega)
    have H' := aK H; clear H; have hcz10_0 := bc BK199.out 0 rfl; have hcz10_1 := bc BK199.out 1 rfl; have hcz10_2 := bc BK199.out 2 rfl; have hcz10_3 := bc BK199.out 3 rfl; have hcz10_4 := bc BK199.out 4 rfl; have hfz10_0 := bF BK199.out 0; have hfz10_1 := bF BK199.out 1; have hfz10_2 := bF BK199.out 2; have hfz10_3 := bF BK199.out 3; have hfz10_4 := bF BK199.out 4
    go_wp2
    go_meet
    case rel => exact ⟨_, (true), (by first | rfl | (simp; done) | (simp [*]; done)), H', ⟨by first | omega | exact Nat.le_refl _⟩, ⟨BK199.out⟩, ⟨by with_reducible repeat first | exact HB.out | apply lN | apply lD | refine lS ?_ GE199.out⟩⟩
  ·rw [if_neg c5] at H
   have c5b0 : ((l0_1.length : Int) == (l0_0.length : Int)) = false := beq_eq_false_iff_ne.mpr c5; have c5b1 : ((l0_1.length : Int) != (l0_0.length : Int)) = true := bne_iff_ne.mpr c5; have c5b2 : (l0_1.length == l0_0.length) = false := by first | simpa using c5 | (simp at c5 ⊢; omega)
   (first | rw [c5b0] | (simp only [i64_w, i32_w]; rw [c5b0]) | skip)
   have H' := aK H; clear H; have hcz11_0 := bc BK199.out 0 rfl; have hcz11_1 := bc BK199.out 1 rfl; have hcz11_2 := bc BK199.out 2 rfl; have hcz11_3 := bc BK199.out 3 rfl; have hcz11_4 := bc BK199.out 4 rfl; have hfz11_0 := bF BK199.out 0; have hfz11_1 := bF BK199.out 1; have hfz11_2 := bF BK199.out 2; have hfz11_3 := bF BK199.out 3; have hfz11_4 := bF BK199.out 4
   go_wp2
   go_meet
   case rel => exact ⟨_, (true), (by first | rfl | (simp; done) | (simp [*]; done)), H', ⟨by first | omega | exact Nat.le_refl _⟩, ⟨BK199.out⟩, ⟨by with_reducible repeat first | exact HB.out | apply lN | apply lD | refine lS ?_ GE199.out⟩⟩
 case rest =>
  clear HC2; (try clear c2); (try clear p2); (try clear c5); (try clear c5b0); (try clear c5b1); (try clear c5b2); (try clear c6); (try clear c6b0); (try clear c6b1); (try clear c6b2); (try clear c7); (try clear c7b0); (try clear c7b1); (try clear c7b2); (try clear hcz10_0); (try clear hcz10_1); (try clear hcz10_2); (try clear hcz10_3); (try clear hcz10_4); (try clear hcz11_0); (try clear hcz11_1); (try clear hcz11_2); (try clear hcz11_3); (try clear hcz11_4); (try clear hcz4_0); (try clear hcz4_1); (try clear hcz4_2); (try clear hcz4_3); (try clear hcz4_4); (try clear hcz8_0); (try clear hcz8_1); (try clear hcz8_2); (try clear hcz8_3); (try clear hcz8_4); (try clear hcz9_0); (try clear hcz9_1); (try clear hcz9_2); (try clear hcz9_3); (try clear hcz9_4); (try clear hfz10_0); (try clear hfz10_1); (try clear hfz10_2); (try clear hfz10_3); (try clear hfz10_4); (try clear hfz11_0); (try clear hfz11_1); (try clear hfz11_2); (try clear hfz11_3); (try clear hfz11_4); (try clear hfz4_0); (try clear hfz4_1); (try clear hfz4_2); (try clear hfz4_3); (try clear hfz4_4); (try clear hfz8_0); (try clear hfz8_1); (try clear hfz8_2); (try clear hfz8_3); (try clear hfz8_4); (try clear hfz9_0); (try clear hfz9_1); (try clear hfz9_2); (try clear hfz9_3); (try clear hfz9_4); obtain ⟨kq, x33_1, rfl, HA, HJ1, BK199, HB⟩ := hcut
  cases kq with
  | zero => exact absurd HA.out (by simp [gstate_Sound.j0])
  | succ kj1 =>
   have H := HA.out; clear HA
   simp only [gstate_Sound.j0] at H
   by_cases c12 : x33_1 = true
   ·subst c12
    have H1 : (some false) = some r := by rw [if_pos rfl] at H; exact H
    clear H; have H := H1; clear H1; obtain rfl := Option.some.inj H
    go_wp2
    go_ret
    exact ⟨by first | rfl | (simp [errW_none, errW_some] <;> rfl) | (simp [*, errW_none, errW_some] <;> rfl), by with_reducible repeat first | exact HB.out | apply lN | apply lD | refine lS ?_ GE199.out⟩
   ·replace c12 := Bool.eq_false_iff.mpr c12
    subst c12; have H1 : (gstate_Sound.l0 kj1 (l0_0.length : Int) (-1) l0_4 (l0_4.length : Int) 0 l0_0 l0_1 l0_2 l0_3 l0_4) = some r := by rw [if_neg (show ¬ (false = true) by decide)] at H; exact H
    clear H; have H := H1; clear H1; have H' := aK H; clear H; have hcz13_0 := bc BK199.out 0 rfl; have hcz13_1 := bc BK199.out 1 rfl; have hcz13_2 := bc BK199.out 2 rfl; have hcz13_3 := bc BK199.out 3 rfl; have hcz13_4 := bc BK199.out 4 rfl; have hfz13_0 := bF BK199.out 0; have hfz13_1 := bF BK199.out 1; have hfz13_2 := bF BK199.out 2; have hfz13_3 := bF BK199.out 3; have hfz13_4 := bF BK199.out 4
    go_wp2
    go_loopg [4, 37] kj1 (fun kq v4 v37 w' => ∃ (x4_2 : Int) (x37_2 : Int), v4 = .int .i64 x4_2 ∧ v37 = .int .i64 x37_2 ∧ Aside0 (gstate_Sound.l0 kq (l0_0.length : Int) x4_2 l0_4 (l0_4.length : Int) x37_2 l0_0 l0_1 l0_2 l0_3 l0_4 = some r) ∧ Aside0 (kq ≤ kj1) ∧ Aside0 (w'.heap[gb199]? = some (.cells #[(.slice A0_0 l0_0.length c0_0), (.slice A0_1 l0_1.length c0_1), (.slice A0_2 l0_2.length c0_2), (.slice A0_3 l0_3.length c0_3), (.slice A0_4 l0_4.length c0_4)] 30 (0, 0))) ∧ Aside0 (Below w.heap.size w w'))
    case atStart => exact ⟨((-1)), (0), (by first | rfl | (simp; done) | (simp [*]; done)), (by first | rfl | (simp; done) | (simp [*]; done)), H', ⟨Nat.le_refl _⟩, ⟨BK199.out⟩, ⟨by with_reducible repeat first | exact HB.out | apply lN | apply lD | refine lS ?_ GE199.out⟩⟩
    case round =>
     clear H'; (try clear c1); (try clear c2); (try clear p2); (try clear c5); (try clear c5b0); (try clear c5b1); (try clear c5b2); (try clear c6); (try clear c6b0); (try clear c6b1); (try clear c6b2); (try clear c7); (try clear c7b0); (try clear c7b1); (try clear c7b2); (try clear c12); (try clear hcz10_0); (try clear hcz10_1); (try clear hcz10_2); (try clear hcz10_3); (try clear hcz10_4); (try clear hcz11_0); (try clear hcz11_1); (try clear hcz11_2); (try clear hcz11_3); (try clear hcz11_4); (try clear hcz13_0); (try clear hcz13_1); (try clear hcz13_2); (try clear hcz13_3); (try clear hcz13_4); (try clear hcz4_0); (try clear hcz4_1); (try clear hcz4_2); (try clear hcz4_3); (try clear hcz4_4); (try clear hcz8_0); (try clear hcz8_1); (try clear hcz8_2); (try clear hcz8_3); (try clear hcz8_4); (try clear hcz9_0); (try clear hcz9_1); (try clear hcz9_2); (try clear hcz9_3); (try clear hcz9_4); (try clear hfz10_0); (try clear hfz10_1); (try clear hfz10_2); (try clear hfz10_3); (try clear hfz10_4); (try clear hfz11_0); (try clear hfz11_1); (try clear hfz11_2); (try clear hfz11_3); (try clear hfz11_4); (try clear hfz13_0); (try clear hfz13_1); (try clear hfz13_2); (try clear hfz13_3); (try clear hfz13_4); (try clear hfz4_0); (try clear hfz4_1); (try clear hfz4_2); (try clear hfz4_3); (try clear hfz4_4); (try clear hfz8_0); (try clear hfz8_1); (try clear hfz8_2); (try clear hfz8_3); (try clear hfz8_4); (try clear hfz9_0); (try clear hfz9_1); (try clear hfz9_2); (try clear hfz9_3); (try clear hfz9_4); (try clear p2); obtain ⟨x4_2, x37_2, rfl, rfl, HA, HK2, BK199, HB⟩ := hrel
     cases gk with
     | zero => exact absurd HA.out (by simp [gstate_Sound.l0])
     | succ k2 =>
      have H := HA.out; clear HA
      simp only [gstate_Sound.l0] at H
      by_cases c14 : x37_2 < (l0_4.length : Int)
      ·rw [if_pos c14] at H
       have c14b0 : decide (x37_2 < (l0_4.length : Int)) = true := decide_eq_true c14; clear c14
       by_cases c15 : 0 ≤ x37_2
       ·rw [if_pos c15] at H
        have c15b0 : decide (0 ≤ x37_2) = true := decide_eq_true c15; clear c15
        by_cases c16 : x37_2 < (l0_4.length : Int)
        ·rw [if_pos c16] at H
         have c16b0 : decide (x37_2 < (l0_4.length : Int)) = true := decide_eq_true c16; clear c16
         by_cases c17 : (rd l0_4 x37_2) ≤ x4_2
         ·rw [if_pos c17] at H
          have c17b0 : decide ((rd l0_4 x37_2) ≤ x4_2) = true := decide_eq_true c17; clear c17; obtain rfl := Option.some.inj H; have p200 : 0 ≤ (x37_2 : Int) := of_decide_eq_true (by first | (with_reducible assumption) | assumption); have q200 : x37_2 < (l0_4.length : Int) := of_decide_eq_true (by first | (with_reducible assumption) | assumption); obtain ⟨ad200, e200, hx200_0⟩ := Kd.at_int HR0_4.out x37_2 p200 q200
          cases e200
          replace hx200_0 := (HB.out.cell (World.block_lt_of_cell? w _ hx200_0)).trans hx200_0; replace p200 := eq_true p200; replace q200 := eq_true q200
          go_wp2
          go_ret
          exact ⟨by first | rfl | (simp [errW_none, errW_some] <;> rfl) | (simp [*, errW_none, errW_some] <;> rfl), by with_reducible repeat first | exact HB.out | apply lN | apply lD | refine lS ?_ GE199.out⟩
         ·rw [if_neg c17] at H
          have c17b0 : decide ((rd l0_4 x37_2) ≤ x4_2) = false := decide_eq_false c17; clear c17
          by_cases c18 : (rd l0_4 x37_2) ≥ (l0_0.length : Int)
          ·rw [if_pos c18] at H
           have c18b0 : decide ((l0_0.length : Int) ≤ (rd l0_4 x37_2)) = true := decide_eq_true c18; clear c18; obtain rfl := Option.some.inj H; have p200 : 0 ≤ (x37_2 : Int) := of_decide_eq_true (by first | (with_reducible assumption) | assumption); have q200 : x37_2 < (l0_4.length : Int) := of_decide_eq_true (by first | (with_reducible assumption) | assumption); obtain ⟨ad200, e200, hx200_0⟩ := Kd.at_int HR0_4.out x37_2 p200 q200
           cases e200
           replace hx200_0 := (HB.out.cell (World.block_lt_of_cell? w _ hx200_0)).trans hx200_0; replace p200 := eq_true p200; replace q200 := eq_true q200
           go_wp2
           go_ret
           exact ⟨by first | rfl | (simp [errW_none, errW_some] <;> rfl) | (simp [*, errW_none, errW_some] <;> rfl), by with_reducible repeat first | exact HB.out | apply lN | apply lD | refine lS ?_ GE199.out⟩
          ·rw [if_neg c18] at H
           have c18b0 : decide ((l0_0.length : Int) ≤ (rd l0_4 x37_2)) = false := decide_eq_false c18; clear c18; have H' := aK H; clear H; have p200 : 0 ≤ (x37_2 : Int) := of_decide_eq_true (by first | (with_reducible assumption) | assumption); have q200 : x37_2 < (l0_4.length : Int) := of_decide_eq_true (by first | (with_reducible assumption) | assumption); obtain ⟨ad200, e200, hx200_0⟩ := Kd.at_int HR0_4.out x37_2 p200 q200
           cases e200
           replace hx200_0 := (HB.out.cell (World.block_lt_of_cell? w _ hx200_0)).trans hx200_0; replace p200 := eq_true p200; replace q200 := eq_true q200
           go_wp2
           go_roundg k2
           case measure => have := HJ1.out; have := HK2.out; omega
           case rel => exact ⟨(rd l0_4 x37_2), (wrap64 (x37_2 + 1)), (by first | rfl | (simp; done) | (simp [*]; done)), (by first | rfl | (simp; done) | (simp [*]; done)), H', ⟨by have := HJ1.out; have := HK2.out; omega⟩, ⟨BK199.out⟩, ⟨by with_reducible repeat first | exact HB.out | apply lN | apply lD | refine lS ?_ GE199.out⟩⟩
        ·rw [if_neg c16] at H
         exact absurd H (by simp)
       ·rw [if_neg c15] at H
        exact absurd H (by simp)
      ·rw [if_neg c14] at H
       have c14b0 : decide (x37_2 < (l0_4.length : Int)) = false := decide_eq_false c14; clear c14; replace H := Option.bind_eq_some_iff.mp H; obtain ⟨t201, A190, H⟩ := H; replace H : (if t201 = true then (some false) else ((api_Spot_51.f k2 l0_1).bind fun t202 => (some (!t202)))) = some r := H; have A19 := aK A190; clear A190
       by_cases c20 : t201 = true
       ·subst c20
        have H1 : (some false) = some r := by rw [if_pos rfl] at H; exact H
        clear H; have H := H1; clear H1; obtain rfl := Option.some.inj H; have hcz21_0 := bc BK199.out 0 rfl; have hcz21_1 := bc BK199.out 1 rfl; have hcz21_2 := bc BK199.out 2 rfl; have hcz21_3 := bc BK199.out 3 rfl; have hcz21_4 := bc BK199.out 4 rfl; have hfz21_0 := bF BK199.out 0; have hfz21_1 := bF BK199.out 1; have hfz21_2 := bF BK199.out 2; have hfz21_3 := bF BK199.out 3; have hfz21_4 := bF BK199.out 4
        go_wp2_with (first | ((with_reducible refine gate_callee (f := 51) rfl ?_); refine goesL_ (some 54) rfl rfl Try.func51 (by kernel_rfl) rfl #[.slice A0_0 l0_0.length c0_0, .func (.func 49) #[] #[]] rfl (by (try simp only [List.map_toArray, List.map_cons, List.map_nil]); first | done | rfl | (simp only [List.length_drop, List.length_take]; rfl)) ?_; (with_reducible refine (api_Spot_51.calls k2 _ _ l0_0 true _ ?side1 ?side2 A19.out).mono ?_); (case side1 => repeat (first | exact (Kd.C_below HR0_0.out HB.out) | (with_reducible refine cA ?_ _) | (with_reducible refine cN ?_ _) | (with_reducible refine cD ?_))); (case side2 => exact HC0_0.out); rintro e w22 ⟨rfl, hb⟩; refine ⟨_, rfl, ?_⟩; replace BK199 := aK (bB BK199.out hb); replace HB := aK (lT (by with_reducible repeat first | exact HB.out | refine lS ?_ GE199.out) hb); (try clear hb); (try clear hb2); (try clear hk); (try clear hi)))
        go_ret
        exact ⟨by first | rfl | (simp [errW_none, errW_some] <;> rfl) | (simp [*, errW_none, errW_some] <;> rfl), by with_reducible repeat first | exact HB.out | apply lN | apply lD | refine lS ?_ GE199.out⟩
       ·replace c20 := Bool.eq_false_iff.mpr c20
        subst c20; have H1 : ((api_Spot_51.f k2 l0_1).bind fun t202 => (some (!t202))) = some r := by rw [if_neg (show ¬ (false = true) by decide)] at H; exact H
        clear H; have H := H1; clear H1; replace H := Option.bind_eq_some_iff.mp H; obtain ⟨t202, A230, H⟩ := H; replace H : (some (!t202)) = some r := H; have A23 := aK A230; clear A230; obtain rfl := Option.some.inj H; have hcz24_0 := bc BK199.out 0 rfl; have hcz24_1 := bc BK199.out 1 rfl; have hcz24_2 := bc BK199.out 2 rfl; have hcz24_3 := bc BK199.out 3 rfl; have hcz24_4 := bc BK199.out 4 rfl; have hfz24_0 := bF BK199.out 0; have hfz24_1 := bF BK199.out 1; have hfz24_2 := bF BK199.out 2; have hfz24_3 := bF BK199.out 3; have hfz24_4 := bF BK199.out 4
        go_wp2_with (first | ((with_reducible refine gate_callee (f := 51) rfl ?_); refine goesL_ (some 54) rfl rfl Try.func51 (by kernel_rfl) rfl #[.slice A0_0 l0_0.length c0_0, .func (.func 49) #[] #[]] rfl (by (try simp only [List.map_toArray, List.map_cons, List.map_nil]); first | done | rfl | (simp only [List.length_drop, List.length_take]; rfl)) ?_; (with_reducible refine (api_Spot_51.calls k2 _ _ l0_0 false _ ?side1 ?side2 A19.out).mono ?_); (case side1 => repeat (first | exact (Kd.C_below HR0_0.out HB.out) | (with_reducible refine cA ?_ _) | (with_reducible refine cN ?_ _) | (with_reducible refine cD ?_))); (case side2 => exact HC0_0.out); rintro e w25 ⟨rfl, hb⟩; refine ⟨_, rfl, ?_⟩; replace BK199 := aK (bB BK199.out hb); replace HB := aK (lT (by with_reducible repeat first | exact HB.out | refine lS ?_ GE199.out) hb); (try clear hb); (try clear hb2); (try clear hk); (try clear hi); have hcz26_0 := bc BK199.out 0 rfl; have hcz26_1 := bc BK199.out 1 rfl; have hcz26_2 := bc BK199.out 2 rfl; have hcz26_3 := bc BK199.out 3 rfl; have hcz26_4 := bc BK199.out 4 rfl; have hfz26_0 := bF BK199.out 0; have hfz26_1 := bF BK199.out 1; have hfz26_2 := bF BK199.out 2; have hfz26_3 := bF BK199.out 3; have hfz26_4 := bF BK199.out 4) | (go_at_call 51; (with_reducible refine (api_Spot_51.calls k2 _ _ l0_1 t202 _ ?side1 ?side2 A23.out).mono ?_); (case side1 => repeat (first | exact (Kd.C_below HR0_1.out HB.out) | (with_reducible refine cA ?_ _) | (with_reducible refine cN ?_ _) | (with_reducible refine cD ?_))); (case side2 => exact HC0_1.out); rintro e w27 ⟨rfl, hb⟩; replace BK199 := aK (bB BK199.out hb); replace HB := aK (lT (by with_reducible repeat first | exact HB.out | refine lS ?_ GE199.out) hb); (try clear hb); (try clear hb2); (try clear hk); (try clear hi)))
        go_ret
        exact ⟨by first | rfl | (simp [errW_none, errW_some] <;> rfl) | (simp [*, errW_none, errW_some] <;> rfl), by with_reducible repeat first | exact HB.out | apply lN | apply lD | refine lS ?_ GE199.out⟩

/-! ### serifref01_Fix: function 15 -/
def serifref01_Fix.f (a0 : Int) : Option (Bool) := if a0 ≥ (-2147483647) then (some (decide (a0 ≤ 2147483647))) else (some false)
set_option maxHeartbeats 8000000 in
set_option maxRecDepth 100000 in
theorem serifref01_Fix.calls (a0 : Int) (r : Bool) (w : World) (h : serifref01_Fix.f a0 = some r) :
  Calls Try.prog 15 #[.int .i64 a0] w fun e w' => e = .returned (.bool r) ∧ Drawn0 w w' := by
 have H : (if a0 ≥ (-2147483647) then (some (decide (a0 ≤ 2147483647))) else (some false)) = some r := h; clear h
 by_cases c2 : a0 ≥ (-2147483647)
 ·rw [if_pos c2] at H
  have c2b0 : decide ((-2147483647) ≤ a0) = true := decide_eq_true c2; clear c2; obtain rfl := Option.some.inj H
  go_enter Try.func15, Try.ntmps15
  go_wp2
  go_ret
  exact ⟨by first | rfl | (simp; done) | (simp [*]; done), by repeat (first | exact Drawn0.refl _ | apply Drawn0.step)⟩
 ·rw [if_neg c2] at H
  have c2b0 : decide ((-2147483647) ≤ a0) = false := decide_eq_false c2; clear c2; obtain rfl := Option.some.inj H
  go_enter Try.func15, Try.ntmps15
  go_wp2
  go_ret
  exact ⟨by first | rfl | (simp; done) | (simp [*]; done), by repeat (first | exact Drawn0.refl _ | apply Drawn0.step)⟩

/-! ### serifref09_Sound: function 27 -/
mutual
def serifref09_Sound.j0 : Nat → Int → Bool → List (S43) → List (S43) → List Bool → List Bool → List Int → Option (Bool)
 | 0, _, _, _, _, _, _, _ => none
 | k + 1, x3, x32, x204000, x204001, x204002, x204003, x204004 => if x32 = true then (some false) else (serifref09_Sound.l0 k x3 x204004 (x204004.length : Int) 0 x204000 x204001 x204002 x204003 x204004)
def serifref09_Sound.l0 : Nat → Int → List Int → Int → Int → List (S43) → List (S43) → List Bool → List Bool → List Int → Option (Bool)
 | 0, _, _, _, _, _, _, _, _, _ => none
 | k + 1, x3, x34, x35, x36, x204000, x204001, x204002, x204003, x204004 => if x36 < x35 then (if 0 ≤ x36 then (if x36 < (x34.length : Int) then (if (rd x34 x36) < 0 then (some false) else (if (rd x34 x36) ≥ x3 then (some false) else (if x36 > 0 then (if 0 ≤ (wrap64 (x36 - 1)) then (if (wrap64 (x36 - 1)) < (x204004.length : Int) then (if (rd x34 x36) ≤ (rd x204004 (wrap64 (x36 - 1))) then (some false) else (serifref09_Sound.l0 k x3 x34 x35 (wrap64 (x36 + 1)) x204000 x204001 x204002 x204003 x204004)) else (none)) else (none)) else (serifref09_Sound.l0 k x3 x34 x35 (wrap64 (x36 + 1)) x204000 x204001 x204002 x204003 x204004)))) else (none)) else (none)) else (serifref09_Sound.l1 k x3 0 x204000 x204001 x204002 x204003 x204004)
def serifref09_Sound.l1 : Nat → Int → Int → List (S43) → List (S43) → List Bool → List Bool → List Int → Option (Bool)
 | 0, _, _, _, _, _, _, _ => none
 | k + 1, x3, x6, x204000, x204001, x204002, x204003, x204004 => if x6 < x3 then (if 0 ≤ x6 then (if x6 < (x204000.length : Int) then ((serifref01_Fix.f ((rd_T43 x204000 x6).f0)).bind fun t207 => (if t207 = true then ((serifref01_Fix.f ((rd_T43 x204000 x6).f1)).bind fun t209 => (if t209 = true then (if x6 < (x204001.length : Int) then ((serifref01_Fix.f ((rd_T43 x204001 x6).f0)).bind fun t211 => (if t211 = true then ((serifref01_Fix.f ((rd_T43 x204001 x6).f1)).bind fun t213 => (if t213 = true then (serifref09_Sound.l1 k x3 (wrap64 (x6 + 1)) x204000 x204001 x204002 x204003 x204004) else (some false))) else (some false))) else (none)) else (some false))) else (some false))) else (none)) else (none)) else (some true)
end
def serifref09_Sound.f (k : Nat) (l0_0 : List (S43)) (l0_1 : List (S43)) (l0_2 : List Bool) (l0_3 : List Bool) (l0_4 : List Int) : Option (Bool) := if (l0_0.length : Int) > 4096 then (serifref09_Sound.j0 k (l0_0.length : Int) true l0_0 l0_1 l0_2 l0_3 l0_4) else (if (l0_1.length : Int) = (l0_0.length : Int) then (if (l0_2.length : Int) = (l0_0.length : Int) then (serifref09_Sound.j0 k (l0_0.length : Int) ((l0_3.length : Int) != (l0_0.length : Int)) l0_0 l0_1 l0_2 l0_3 l0_4) else (serifref09_Sound.j0 k (l0_0.length : Int) true l0_0 l0_1 l0_2 l0_3 l0_4)) else (serifref09_Sound.j0 k (l0_0.length : Int) true l0_0 l0_1 l0_2 l0_3 l0_4))
theorem serifref09_Sound.mono_l : ∀ k, (∀ y0 y1 y2 y3 y4 y5 y6, LeO (serifref09_Sound.j0 k y0 y1 y2 y3 y4 y5 y6) (serifref09_Sound.j0 (k + 1) y0 y1 y2 y3 y4 y5 y6)) ∧ (∀ y0 y1 y2 y3 y4 y5 y6 y7 y8, LeO (serifref09_Sound.l0 k y0 y1 y2 y3 y4 y5 y6 y7 y8) (serifref09_Sound.l0 (k + 1) y0 y1 y2 y3 y4 y5 y6 y7 y8)) ∧ (∀ y0 y1 y2 y3 y4 y5 y6, LeO (serifref09_Sound.l1 k y0 y1 y2 y3 y4 y5 y6) (serifref09_Sound.l1 (k + 1) y0 y1 y2 y3 y4 y5 y6))
 | 0 => ⟨fun _ _ _ _ _ _ _ r h => by simp [serifref09_Sound.j0] at h, fun _ _ _ _ _ _ _ _ _ r h => by simp [serifref09_Sound.l0] at h, fun _ _ _ _ _ _ _ r h => by simp [serifref09_Sound.l1] at h⟩
 | k + 1 => by
  obtain ⟨ih0, ih1, ih2⟩ := serifref09_Sound.mono_l k
  refine ⟨?_, ?_, ?_⟩
  ·intro y0 y1 y2 y3 y4 y5 y6
   unfold serifref09_Sound.j0
   repeat' first
   | (with_reducible exact ih0 _ _ _ _ _ _ _)
   | (with_reducible exact ih1 _ _ _ _ _ _ _ _ _)
   | (with_reducible exact ih2 _ _ _ _ _ _ _)
   | (with_reducible exact LeO.refl _)
   | (with_reducible exact LeO.none _)
   | (with_reducible refine LeO.ite ?_ ?_)
   | (with_reducible refine LeO.bind ?_ (fun _ => ?_))
   | exact ih0 _ _ _ _ _ _ _
   | exact ih1 _ _ _ _ _ _ _ _ _
   | exact ih2 _ _ _ _ _ _ _
   | exact LeO.none _
   | refine LeO.ite ?_ ?_
   | refine LeO.bind ?_ (fun _ => ?_)
  ·intro y0 y1 y2 y3 y4 y5 y6 y7 y8
   unfold serifref09_Sound.l0
   repeat' first
   | (with_reducible exact ih0 _ _ _ _ _ _ _)
   | (with_reducible exact ih1 _ _ _ _ _ _ _ _ _)
   | (with_reducible exact ih2 _ _ _ _ _ _ _)
   | (with_reducible exact LeO.refl _)
   | (with_reducible exact LeO.none _)
   | (with_reducible refine LeO.ite ?_ ?_)
   | (with_reducible refine LeO.bind ?_ (fun _ => ?_))
   | exact ih0 _ _ _ _ _ _ _
   | exact ih1 _ _ _ _ _ _ _ _ _
   | exact ih2 _ _ _ _ _ _ _
   | exact LeO.none _
   | refine LeO.ite ?_ ?_
   | refine LeO.bind ?_ (fun _ => ?_)
  ·intro y0 y1 y2 y3 y4 y5 y6
   unfold serifref09_Sound.l1
   repeat' first
   | (with_reducible exact ih0 _ _ _ _ _ _ _)
   | (with_reducible exact ih1 _ _ _ _ _ _ _ _ _)
   | (with_reducible exact ih2 _ _ _ _ _ _ _)
   | (with_reducible exact LeO.refl _)
   | (with_reducible exact LeO.none _)
   | (with_reducible refine LeO.ite ?_ ?_)
   | (with_reducible refine LeO.bind ?_ (fun _ => ?_))
   | exact ih0 _ _ _ _ _ _ _
   | exact ih1 _ _ _ _ _ _ _ _ _
   | exact ih2 _ _ _ _ _ _ _
   | exact LeO.none _
   | refine LeO.ite ?_ ?_
   | refine LeO.bind ?_ (fun _ => ?_)
theorem serifref09_Sound.mono : ∀ a0 a1 a2 a3 a4 k, LeO (serifref09_Sound.f k a0 a1 a2 a3 a4) (serifref09_Sound.f (k + 1) a0 a1 a2 a3 a4) := by
 intro a0 a1 a2 a3 a4 k
 obtain ⟨ih0, ih1, ih2⟩ := serifref09_Sound.mono_l k
 unfold serifref09_Sound.f
 repeat' first
   | (with_reducible exact ih0 _ _ _ _ _ _ _)
   | (with_reducible exact ih1 _ _ _ _ _ _ _ _ _)
   | (with_reducible exact ih2 _ _ _ _ _ _ _)
   | (with_reducible exact LeO.refl _)
   | (with_reducible exact LeO.none _)
   | (with_reducible refine LeO.ite ?_ ?_)
   | (with_reducible refine LeO.bind ?_ (fun _ => ?_))
   | exact ih0 _ _ _ _ _ _ _
   | exact ih1 _ _ _ _ _ _ _ _ _
   | exact ih2 _ _ _ _ _ _ _
   | exact LeO.none _
   | refine LeO.ite ?_ ?_
   | refine LeO.bind ?_ (fun _ => ?_)
set_option maxHeartbeats 8000000 in
set_option maxRecDepth 100000 in
theorem serifref09_Sound.calls (k : Nat) (A0_0 : Option Addr) (c0_0 : Nat) (l0_0 : List (S43)) (A0_1 : Option Addr) (c0_1 : Nat) (l0_1 : List (S43)) (A0_2 : Option Addr) (c0_2 : Nat) (l0_2 : List Bool) (A0_3 : Option Addr) (c0_3 : Nat) (l0_3 : List Bool) (A0_4 : Option Addr) (c0_4 : Nat) (l0_4 : List Int) (r : Bool) (w : World) (hr0_0 : Kd.C k43 w A0_0 l0_0.length l0_0) (hc0_0 : l0_0.length ≤ c0_0) (hr0_1 : Kd.C k43 w A0_1 l0_1.length l0_1) (hc0_1 : l0_1.length ≤ c0_1) (hr0_2 : Kd.C Kd.bool w A0_2 l0_2.length l0_2) (hc0_2 : l0_2.length ≤ c0_2) (hr0_3 : Kd.C Kd.bool w A0_3 l0_3.length l0_3) (hc0_3 : l0_3.length ≤ c0_3) (hr0_4 : Kd.C (Kd.int .i64) w A0_4 l0_4.length l0_4) (hc0_4 : l0_4.length ≤ c0_4) (h : serifref09_Sound.f k l0_0 l0_1 l0_2 l0_3 l0_4 = some r) :
  Calls Try.prog 27 #[.agg #[.slice A0_0 l0_0.length c0_0, .slice A0_1 l0_1.length c0_1, .slice A0_2 l0_2.length c0_2, .slice A0_3 l0_3.length c0_3, .slice A0_4 l0_4.length c0_4]] w fun e w' => e = .returned (.bool r) ∧ Below w.heap.size w w' := by
 have hu30 := Try.underlying30; have HR0_0 := aK hr0_0; have HC0_0 := aK hc0_0; clear hr0_0 hc0_0; have HR0_1 := aK hr0_1; have HC0_1 := aK hc0_1; clear hr0_1 hc0_1; have HR0_2 := aK hr0_2; have HC0_2 := aK hc0_2; clear hr0_2 hc0_2; have HR0_3 := aK hr0_3; have HC0_3 := aK hc0_3; clear hr0_3 hc0_3; have HR0_4 := aK hr0_4; have HC0_4 := aK hc0_4; clear hr0_4 hc0_4; have HB := aK (Below.refl w.heap.size w); have H : (if (l0_0.length : Int) > 4096 then (serifref09_Sound.j0 k (l0_0.length : Int) true l0_0 l0_1 l0_2 l0_3 l0_4) else (if (l0_1.length : Int) = (l0_0.length : Int) then (if (l0_2.length : Int) = (l0_0.length : Int) then (serifref09_Sound.j0 k (l0_0.length : Int) ((l0_3.length : Int) != (l0_0.length : Int)) l0_0 l0_1 l0_2 l0_3 l0_4) else (serifref09_Sound.j0 k (l0_0.length : Int) true l0_0 l0_1 l0_2 l0_3 l0_4)) else (serifref09_Sound.j0 k (l0_0.length : Int) true l0_0 l0_1 l0_2 l0_3 l0_4))) = some r := h; clear h; have HC2 := aK H; clear H
 go_enter Try.func27, Try.ntmps27
 go_upto_region 2 with (first | ((with_reducible refine gate_dst (N := 1) rfl ?_); (try (refine gate_guard (by rfl) ?_; dsimp only)); refine box_event ?hg (N := 1) ?hd (cs := #[.slice A0_0 l0_0.length c0_0, .slice A0_1 l0_1.length c0_1, .slice A0_2 l0_2.length c0_2, .slice A0_3 l0_3.length c0_3, .slice A0_4 l0_4.length c0_4]) (t := 30) ?hr ?_; (case hd => rfl); (case hg => rfl); (case hr => first | (go_simp; done) | (go_simp; rfl)); intro gb203 hg w3 hbox hb; have BK203 := aK (hbox); have GW203 := aK ((by rw [hg]; exact (lZ (by with_reducible repeat first | exact HB.out | apply lN | apply lD)) : w.heap.size ≤ gb203)); have GE203 := aK ((by rw [hg]; exact (lZ (by with_reducible repeat first | exact HB.out | apply lN | apply lD)) : w.heap.size ≤ gb203)); replace HB := aK (lT HB.out hb); clear hb hbox hg; have hcz4_0 := bc BK203.out 0 rfl; have hcz4_1 := bc BK203.out 1 rfl; have hcz4_2 := bc BK203.out 2 rfl; have hcz4_3 := bc BK203.out 3 rfl; have hcz4_4 := bc BK203.out 4 rfl; have hfz4_0 := bF BK203.out 0; have hfz4_1 := bF BK203.out 1; have hfz4_2 := bF BK203.out 2; have hfz4_3 := bF BK203.out 3; have hfz4_4 := bF BK203.out 4))
 (try simp only [Act.put, List.setIfInBounds_toArray, List.set_cons_zero, List.set_cons_succ])
 go_cut [32] (fun v32 wc => ∃ (kq : Nat) (x32_1 : Bool), v32 = .bool x32_1 ∧ Aside0 (serifref09_Sound.j0 kq (l0_0.length : Int) x32_1 l0_0 l0_1 l0_2 l0_3 l0_4 = some r) ∧ Aside0 (kq ≤ k) ∧ Aside0 (wc.heap[gb203]? = some (.cells #[(.slice A0_0 l0_0.length c0_0), (.slice A0_1 l0_1.length c0_1), (.slice A0_2 l0_2.length c0_2), (.slice A0_3 l0_3.length c0_3), (.slice A0_4 l0_4.length c0_4)] 30 (0, 0))) ∧ Aside0 (Below w.heap.size w wc))
 case first =>
  have H := HC2.out; clear HC2
  by_cases c5 : (l0_0.length : Int) > 4096
  ·rw [if_pos c5] at H
   have c5b0 : decide (4096 < (l0_0.length : Int)) = true := decide_eq_true c5; have c5b1 : decide (4096 < l0_0.length) = true := decide_eq_true (by omega); clear c5
   (first | rw [c5b0] | (simp only [i64_w, i32_w]; rw [c5b0]) | skip)
   have H' := aK H; clear H
   go_wp2
   go_meet
   case rel => exact ⟨_, (true), (by first | rfl | (simp; done) | (simp [*]; done)), H', ⟨by first | omega | exact Nat.le_refl _⟩, ⟨BK203.out⟩, ⟨by with_reducible repeat first | exact HB.out | apply lN | apply lD | refine lS ?_ GE203.out⟩⟩
  ·rw [if_neg c5] at H
   have c5b0 : decide (4096 < (l0_0.length : Int)) = false := decide_eq_false c5; have c5b1 : decide (4096 < l0_0.length) = false := decide_eq_false (by omega); clear c5
   (first | rw [c5b0] | (simp only [i64_w, i32_w]; rw [c5b0]) | skip)
   by_cases c6 : (l0_1.length : Int) = (l0_0.length : Int)
   ·rw [if_pos c6] at H
    have c6b0 : ((l0_1.length : Int) == (l0_0.length : Int)) = true := beq_iff_eq.mpr c6; have c6b1 : ((l0_1.length : Int) != (l0_0.length : Int)) = false := bne_eq_false_iff_eq.mpr c6; have c6b2 : (l0_1.length == l0_0.length) = true := by first | simpa using c6 | (simp at c6 ⊢; omega)
    clear c6
    by_cases c7 : (l0_2.length : Int) = (l0_0.length : Int)
    ·rw [if_pos c7] at H
     have c7b0 : ((l0_2.length : Int) == (l0_0.length : Int)) = true := beq_iff_eq.mpr c7; have c7b1 : ((l0_2.length : Int) != (l0_0.length : Int)) = false := bne_eq_false_iff_eq.mpr c7; have c7b2 : (l0_2.length == l0_0.length) = true := by first | simpa using c7 | (simp at c7 ⊢; omega)
     clear c7; have H' := aK H; clear H; have hcz8_0 := bc BK203.out 0 rfl; have hcz8_1 := bc BK203.out 1 rfl; have hcz8_2 := bc BK203.out 2 rfl; have hcz8_3 := bc BK203.out 3 rfl; have hcz8_4 := bc BK203.out 4 rfl; have hfz8_0 := bF BK203.out 0; have hfz8_1 := bF BK203.out 1; have hfz8_2 := bF BK203.out 2; have hfz8_3 := bF BK203.out 3; have hfz8_4 := bF BK203.out 4
     go_wp2
     go_meet
     case rel => exact ⟨_, (((l0_3.length : Int) != (l0_0.length : Int))), (by first | rfl | (simp; done) | (simp [*]; done)), H', ⟨by first | omega | exact Nat.le_refl _⟩, ⟨BK203.out⟩, ⟨by with_reducible repeat first | exact HB.out | apply lN | apply lD | refine lS ?_ GE203.out⟩⟩
    ·rw [if_neg c7] at H
     have c7b0 : ((l0_2.length : Int) == (l0_0.length : Int)) = false := beq_eq_false_iff_ne.mpr c7; have c7b1 : ((l0_2.length : Int) != (l0_0.length : Int)) = true := bne_iff_ne.mpr c7; have c7b2 : (l0_2.length == l0_0.length) = false := by first | simpa using c7 | (simp at c7 ⊢; omega)
     have H' := aK H; clear H; have hcz9_0 := bc BK203.out 0 rfl; have hcz9_1 := bc BK203.out 1 rfl; have hcz9_2 := bc BK203.out 2 rfl; have hcz9_3 := bc BK203.out 3 rfl; have hcz9_4 := bc BK203.out 4 rfl; have hfz9_0 := bF BK203.out 0; have hfz9_1 := bF BK203.out 1; have hfz9_2 := bF BK203.out 2; have hfz9_3 := bF BK203.out 3; have hfz9_4 := bF BK203.out 4
     go_wp2
     go_meet
     case rel => exact ⟨_, (true), (by first | rfl | (simp; done) | (simp [*]; done)), H', ⟨by first | omega | exact Nat.le_refl _⟩, ⟨BK203.out⟩, ⟨by with_reducible repeat first | exact HB.out | apply lN | apply lD | refine lS ?_ GE203.out⟩⟩
   ·rw [if_neg c6] at H
    have c6b0 : ((l0_1.length : Int) == (l0_0.length : Int)) = false := beq_eq_false_iff_ne.mpr c6; have c6b1 : ((l0_1.length : Int) != (l0_0.length : Int)) = true := bne_iff_ne.mpr c6; have c6b2 : (l0_1.length == l0_0.length) = false := by first | simpa using c6 | (simp at c6 ⊢; omega)
    have H' := aK H; clear H; have hcz10_0 := bc BK203.out 0 rfl; have hcz10_1 := bc BK203.out 1 rfl; have hcz10_2 := bc BK203.out 2 rfl; have hcz10_3 := bc BK203.out 3 rfl; have hcz10_4 := bc BK203.out 4 rfl; have hfz10_0 := bF BK203.out 0; have hfz10_1 := bF BK203.out 1; have hfz10_2 := bF BK203.out 2; have hfz10_3 := bF BK203.out 3; have hfz10_4 := bF BK203.out 4
    go_wp2
    go_meet
    case rel => exact ⟨_, (true), (by first | rfl | (simp; done) | (simp [*]; done)), H', ⟨by first | omega | exact Nat.le_refl _⟩, ⟨BK203.out⟩, ⟨by with_reducible repeat first | exact HB.out | apply lN | apply lD | refine lS ?_ GE203.out⟩⟩
 case rest =>
  clear HC2; (try clear c2); (try clear p2); (try clear c5); (try clear c5b0); (try clear c5b1); (try clear c6); (try clear c6b0); (try clear c6b1); (try clear c6b2); (try clear c7); (try clear c7b0); (try clear c7b1); (try clear c7b2); (try clear hcz10_0); (try clear hcz10_1); (try clear hcz10_2); (try clear hcz10_3); (try clear hcz10_4); (try clear hcz4_0); (try clear hcz4_1); (try clear hcz4_2); (try clear hcz4_3); (try clear hcz4_4); (try clear hcz8_0); (try clear hcz8_1); (try clear hcz8_2); (try clear hcz8_3); (try clear hcz8_4); (try clear hcz9_0); (try clear hcz9_1); (try clear hcz9_2); (try clear hcz9_3); (try clear hcz9_4); (try clear hfz10_0); (try clear hfz10_1); (try clear hfz10_2); (try clear hfz10_3); (try clear hfz10_4); (try clear hfz4_0); (try clear hfz4_1); (try clear hfz4_2); (try clear hfz4_3); (try clear hfz4_4); (try clear hfz8_0); (try clear hfz8_1); (try clear hfz8_2); (try clear hfz8_3); (try clear hfz8_4); (try clear hfz9_0); (try clear hfz9_1); (try clear hfz9_2); (try clear hfz9_3); (try clear hfz9_4); obtain ⟨kq, x32_1, rfl, HA, HJ1, BK203, HB⟩ := hcut
  cases kq with
  | zero => exact absurd HA.out (by simp [serifref09_Sound.j0])
  | succ kj1 =>
   have H := HA.out; clear HA
   simp only [serifref09_Sound.j0] at H
   by_cases c11 : x32_1 = true
   ·subst c11
    have H1 : (some false) = some r := by rw [if_pos rfl] at H; exact H
    clear H; have H := H1; clear H1; obtain rfl := Option.some.inj H
    go_wp2
    go_ret
    exact ⟨by first | rfl | (simp [errW_none, errW_some] <;> rfl) | (simp [*, errW_none, errW_some] <;> rfl), by with_reducible repeat first | exact HB.out | apply lN | apply lD | refine lS ?_ GE203.out⟩
   ·replace c11 := Bool.eq_false_iff.mpr c11
    subst c11; have H1 : (serifref09_Sound.l0 kj1 (l0_0.length : Int) l0_4 (l0_4.length : Int) 0 l0_0 l0_1 l0_2 l0_3 l0_4) = some r := by rw [if_neg (show ¬ (false = true) by decide)] at H; exact H
    clear H; have H := H1; clear H1; have H' := aK H; clear H; have hcz12_0 := bc BK203.out 0 rfl; have hcz12_1 := bc BK203.out 1 rfl; have hcz12_2 := bc BK203.out 2 rfl; have hcz12_3 := bc BK203.out 3 rfl; have hcz12_4 := bc BK203.out 4 rfl; have hfz12_0 := bF BK203.out 0; have hfz12_1 := bF BK203.out 1; have hfz12_2 := bF BK203.out 2; have hfz12_3 := bF BK203.out 3; have hfz12_4 := bF BK203.out 4
    go_wp2
    go_loopg [36] kj1 (fun kq v36 w' => ∃ (x36_2 : Int), v36 = .int .i64 x36_2 ∧ Aside0 (serifref09_Sound.l0 kq (l0_0.length : Int) l0_4 (l0_4.length : Int) x36_2 l0_0 l0_1 l0_2 l0_3 l0_4 = some r) ∧ Aside0 (kq ≤ kj1) ∧ Aside0 (w'.heap[gb203]? = some (.cells #[(.slice A0_0 l0_0.length c0_0), (.slice A0_1 l0_1.length c0_1), (.slice A0_2 l0_2.length c0_2), (.slice A0_3 l0_3.length c0_3), (.slice A0_4 l0_4.length c0_4)] 30 (0, 0))) ∧ Aside0 (Below w.heap.size w w'))
    case atStart => exact ⟨(0), (by first | rfl | (simp; done) | (simp [*]; done)), H', ⟨Nat.le_refl _⟩, ⟨BK203.out⟩, ⟨by with_reducible repeat first | exact HB.out | apply lN | apply lD | refine lS ?_ GE203.out⟩⟩
    case round =>
     clear H'; (try clear c1); (try clear c2); (try clear p2); (try clear c5); (try clear c5b0); (try clear c5b1); (try clear c6); (try clear c6b0); (try clear c6b1); (try clear c6b2); (try clear c7); (try clear c7b0); (try clear c7b1); (try clear c7b2); (try clear c11); (try clear hcz10_0); (try clear hcz10_1); (try clear hcz10_2); (try clear hcz10_3); (try clear hcz10_4); (try clear hcz12_0); (try clear hcz12_1); (try clear hcz12_2); (try clear hcz12_3); (try clear hcz12_4); (try clear hcz4_0); (try clear hcz4_1); (try clear hcz4_2); (try clear hcz4_3); (try clear hcz4_4); (try clear hcz8_0); (try clear hcz8_1); (try clear hcz8_2); (try clear hcz8_3); (try clear hcz8_4); (try clear hcz9_0); (try clear hcz9_1); (try clear hcz9_2); (try clear hcz9_3); (try clear hcz9_4); (try clear hfz10_0); (try clear hfz10_1); (try clear hfz10_2); (try clear hfz10_3); (try clear hfz10_4); (try clear hfz12_0); (try clear hfz12_1); (try clear hfz12_2); (try clear hfz12_3); (try clear hfz12_4); (try clear hfz4_0); (try clear hfz4_1); (try clear hfz4_2); (try clear hfz4_3); (try clear hfz4_4); (try clear hfz8_0); (try clear hfz8_1); (try clear hfz8_2); (try clear hfz8_3); (try clear hfz8_4); (try clear hfz9_0); (try clear hfz9_1); (try clear hfz9_2); (try clear hfz9_3); (try clear hfz9_4); (try clear p2); obtain ⟨x36_2, rfl, HA, HK2, BK203, HB⟩ := hrel
     cases gk with
     | zero => exact absurd HA.out (by simp [serifref09_Sound.l0])
     | succ k2 =>
      have H := HA.out; clear HA
      simp only [serifref09_Sound.l0] at H
      by_cases c13 : x36_2 < (l0_4.length : Int)
      ·rw [if_pos c13] at H
       have c13b0 : decide (x36_2 < (l0_4.length : Int)) = true := decide_eq_true c13; clear c13
       by_cases c14 : 0 ≤ x36_2
       ·rw [if_pos c14] at H
        have c14b0 : decide (0 ≤ x36_2) = true := decide_eq_true c14; clear c14
        by_cases c15 : x36_2 < (l0_4.length : Int)
        ·rw [if_pos c15] at H
         have c15b0 : decide (x36_2 < (l0_4.length : Int)) = true := decide_eq_true c15; clear c15
         by_cases c16 : (rd l0_4 x36_2) < 0
         ·rw [if_pos c16] at H
          have c16b0 : decide ((rd l0_4 x36_2) < 0) = true := decide_eq_true c16; clear c16; obtain rfl := Option.some.inj H; have p204 : 0 ≤ (x36_2 : Int) := of_decide_eq_true (by first | (with_reducible assumption) | assumption); have q204 : x36_2 < (l0_4.length : Int) := of_decide_eq_true (by first | (with_reducible assumption) | assumption); obtain ⟨ad204, e204, hx204_0⟩ := Kd.at_int HR0_4.out x36_2 p204 q204
          cases e204
          replace hx204_0 := (HB.out.cell (World.block_lt_of_cell? w _ hx204_0)).trans hx204_0; replace p204 := eq_true p204; replace q204 := eq_true q204
          go_wp2
          go_ret
          exact ⟨by first | rfl | (simp [errW_none, errW_some] <;> rfl) | (simp [*, errW_none, errW_some] <;> rfl), by with_reducible repeat first | exact HB.out | apply lN | apply lD | refine lS ?_ GE203.out⟩
         ·rw [if_neg c16] at H
          have c16b0 : decide ((rd l0_4 x36_2) < 0) = false := decide_eq_false c16; clear c16
          by_cases c17 : (rd l0_4 x36_2) ≥ (l0_0.length : Int)
          ·rw [if_pos c17] at H
           have c17b0 : decide ((l0_0.length : Int) ≤ (rd l0_4 x36_2)) = true := decide_eq_true c17; clear c17; obtain rfl := Option.some.inj H; have p204 : 0 ≤ (x36_2 : Int) := of_decide_eq_true (by first | (with_reducible assumption) | assumption); have q204 : x36_2 < (l0_4.length : Int) := of_decide_eq_true (by first | (with_reducible assumption) | assumption); obtain ⟨ad204, e204, hx204_0⟩ := Kd.at_int HR0_4.out x36_2 p204 q204
           cases e204
           replace hx204_0 := (HB.out.cell (World.block_lt_of_cell? w _ hx204_0)).trans hx204_0; replace p204 := eq_true p204; replace q204 := eq_true q204
           go_wp2
           go_ret
           exact ⟨by first | rfl | (simp [errW_none, errW_some] <;> rfl) | (simp [*, errW_none, errW_some] <;> rfl), by with_reducible repeat first | exact HB.out | apply lN | apply lD | refine lS ?_ GE203.out⟩
          ·rw [if_neg c17] at H
           have c17b0 : decide ((l0_0.length : Int) ≤ (rd l0_4 x36_2)) = false := decide_eq_false c17; clear c17
           by_cases c18 : x36_2 > 0
           ·rw [if_pos c18] at H
            have c18b0 : decide (0 < x36_2) = true := decide_eq_true c18; clear c18; obtain ⟨ji19, hji19⟩ : ∃ j_ : Int, (wrap64 (x36_2 - 1)) = j_ := ⟨_, rfl⟩; replace H : (if 0 ≤ (ji19) then (if (ji19) < (l0_4.length : Int) then (if (rd l0_4 x36_2) ≤ (rd l0_4 (ji19)) then (some false) else (serifref09_Sound.l0 k2 (l0_0.length : Int) l0_4 (l0_4.length : Int) (wrap64 (x36_2 + 1)) l0_0 l0_1 l0_2 l0_3 l0_4)) else (none)) else (none)) = some r := by first | (rw [hji19] at H; exact H) | (simp only [hji19] at H ⊢; exact H)
            have hji19w : (IntKind.i64.wrap (x36_2 - 1)) = ji19 := (i64_w _).trans hji19
            by_cases c20 : 0 ≤ (ji19)
            ·rw [if_pos c20] at H
             have c20b0 : decide (0 ≤ (ji19)) = true := decide_eq_true c20; clear c20
             by_cases c21 : (ji19) < (l0_4.length : Int)
             ·rw [if_pos c21] at H
              have c21b0 : decide ((ji19) < (l0_4.length : Int)) = true := decide_eq_true c21; clear c21
              by_cases c22 : (rd l0_4 x36_2) ≤ (rd l0_4 (ji19))
              ·rw [if_pos c22] at H
               have c22b0 : decide ((rd l0_4 x36_2) ≤ (rd l0_4 (ji19))) = true := decide_eq_true c22; clear c22; obtain rfl := Option.some.inj H; have p204 : 0 ≤ (x36_2 : Int) := of_decide_eq_true (by first | (with_reducible assumption) | assumption); have q204 : x36_2 < (l0_4.length : Int) := of_decide_eq_true (by first | (with_reducible assumption) | assumption); obtain ⟨ad204, e204, hx204_0⟩ := Kd.at_int HR0_4.out x36_2 p204 q204
               cases e204
               replace hx204_0 := (HB.out.cell (World.block_lt_of_cell? w _ hx204_0)).trans hx204_0; replace p204 := eq_true p204; replace q204 := eq_true q204; have hcz23_0 := bc BK203.out 0 rfl; have hcz23_1 := bc BK203.out 1 rfl; have hcz23_2 := bc BK203.out 2 rfl; have hcz23_3 := bc BK203.out 3 rfl; have hcz23_4 := bc BK203.out 4 rfl; have hfz23_0 := bF BK203.out 0; have hfz23_1 := bF BK203.out 1; have hfz23_2 := bF BK203.out 2; have hfz23_3 := bF BK203.out 3; have hfz23_4 := bF BK203.out 4; have p205 : 0 ≤ ((ji19) : Int) := of_decide_eq_true (by first | (with_reducible assumption) | assumption); have q205 : (ji19) < (l0_4.length : Int) := of_decide_eq_true (by first | (with_reducible assumption) | assumption); obtain ⟨ad205, e205, hx205_0⟩ := Kd.at_int HR0_4.out (ji19) p205 q205; obtain rfl : ad204 = ad205 := (by injection e205); replace hx205_0 := (HB.out.cell (World.block_lt_of_cell? w _ hx205_0)).trans hx205_0; replace p205 := eq_true p205; replace q205 := eq_true q205
               go_wp2
               go_ret
               exact ⟨by first | rfl | (simp [errW_none, errW_some] <;> rfl) | (simp only [← hji19]; first | rfl | (simp [errW_none, errW_some] <;> rfl)) | (simp [*, errW_none, errW_some] <;> rfl), by with_reducible repeat first | exact HB.out | apply lN | apply lD | refine lS ?_ GE203.out⟩
              ·rw [if_neg c22] at H
               have c22b0 : decide ((rd l0_4 x36_2) ≤ (rd l0_4 (ji19))) = false := decide_eq_false c22; clear c22; have H' := aK H; clear H; have p204 : 0 ≤ (x36_2 : Int) := of_decide_eq_true (by first | (with_reducible assumption) | assumption); have q204 : x36_2 < (l0_4.length : Int) := of_decide_eq_true (by first | (with_reducible assumption) | assumption); obtain ⟨ad204, e204, hx204_0⟩ := Kd.at_int HR0_4.out x36_2 p204 q204
               cases e204
               replace hx204_0 := (HB.out.cell (World.block_lt_of_cell? w _ hx204_0)).trans hx204_0; replace p204 := eq_true p204; replace q204 := eq_true q204; have hcz24_0 := bc BK203.out 0 rfl; have hcz24_1 := bc BK203.out 1 rfl; have hcz24_2 := bc BK203.out 2 rfl; have hcz24_3 := bc BK203.out 3 rfl; have hcz24_4 := bc BK203.out 4 rfl; have hfz24_0 := bF BK203.out 0; have hfz24_1 := bF BK203.out 1; have hfz24_2 := bF BK203.out 2; have hfz24_3 := bF BK203.out 3; have hfz24_4 := bF BK203.out 4; have p205 : 0 ≤ ((ji19) : Int) := of_decide_eq_true (by first | (with_reducible assumption) | assumption); have q205 : (ji19) < (l0_4.length : Int) := of_decide_eq_true (by first | (with_reducible assumption) | assumption); obtain ⟨ad205, e205, hx205_0⟩ := Kd.at_int HR0_4.out (ji19) p205 q205; obtain rfl : ad204 = ad205 := (by injection e205); replace hx205_0 := (HB.out.cell (World.block_lt_of_cell? w _ hx205_0)).trans hx205_0; replace p205 := eq_true p205; replace q205 := eq_true q205
               go_wp2
               go_roundg k2
               case measure => have := HJ1.out; have := HK2.out; omega
               case rel => exact ⟨(wrap64 (x36_2 + 1)), (by first | rfl | (simp; done) | (simp [*]; done)), H', ⟨by have := HJ1.out; have := HK2.out; omega⟩, ⟨BK203.out⟩, ⟨by with_reducible repeat first | exact HB.out | apply lN | apply lD | refine lS ?_ GE203.out⟩⟩
             ·rw [if_neg c21] at H
              exact absurd H (by simp)
            ·rw [if_neg c20] at H
             exact absurd H (by simp)
           ·rw [if_neg c18] at H
            have c18b0 : decide (0 < x36_2) = false := decide_eq_false c18; clear c18; have H' := aK H; clear H; have p204 : 0 ≤ (x36_2 : Int) := of_decide_eq_true (by first | (with_reducible assumption) | assumption); have q204 : x36_2 < (l0_4.length : Int) := of_decide_eq_true (by first | (with_reducible assumption) | assumption); obtain ⟨ad204, e204, hx204_0⟩ := Kd.at_int HR0_4.out x36_2 p204 q204
            cases e204
            replace hx204_0 := (HB.out.cell (World.block_lt_of_cell? w _ hx204_0)).trans hx204_0; replace p204 := eq_true p204; replace q204 := eq_true q204
            go_wp2
            go_roundg k2
            case measure => have := HJ1.out; have := HK2.out; omega
            case rel => exact ⟨(wrap64 (x36_2 + 1)), (by first | rfl | (simp; done) | (simp [*]; done)), H', ⟨by have := HJ1.out; have := HK2.out; omega⟩, ⟨BK203.out⟩, ⟨by with_reducible repeat first | exact HB.out | apply lN | apply lD | refine lS ?_ GE203.out⟩⟩
        ·rw [if_neg c15] at H
         exact absurd H (by simp)
       ·rw [if_neg c14] at H
        exact absurd H (by simp)
      ·rw [if_neg c13] at H
       have c13b0 : decide (x36_2 < (l0_4.length : Int)) = false := decide_eq_false c13; clear c13; have H' := aK H; clear H
       go_wp2
       go_loopg [6] k2 (fun kq v6 w' => ∃ (x6_3 : Int), v6 = .int .i64 x6_3 ∧ Aside0 (serifref09_Sound.l1 kq (l0_0.length : Int) x6_3 l0_0 l0_1 l0_2 l0_3 l0_4 = some r) ∧ Aside0 (kq ≤ k2) ∧ Aside0 (w'.heap[gb203]? = some (.cells #[(.slice A0_0 l0_0.length c0_0), (.slice A0_1 l0_1.length c0_1), (.slice A0_2 l0_2.length c0_2), (.slice A0_3 l0_3.length c0_3), (.slice A0_4 l0_4.length c0_4)] 30 (0, 0))) ∧ Aside0 (Below w.heap.size w w'))
       case atStart => exact ⟨(0), (by first | rfl | (simp; done) | (simp [*]; done)), H', ⟨Nat.le_refl _⟩, ⟨BK203.out⟩, ⟨by with_reducible repeat first | exact HB.out | apply lN | apply lD | refine lS ?_ GE203.out⟩⟩
       case round =>
        clear H'; (try clear c1); (try clear c2); (try clear p2); (try clear q2); (try clear hx2); (try clear c5); (try clear c5b0); (try clear c5b1); (try clear c6); (try clear c6b0); (try clear c6b1); (try clear c6b2); (try clear p6); (try clear c7); (try clear c7b0); (try clear c7b1); (try clear c7b2); (try clear c11); (try clear c13); (try clear c13b0); (try clear c14); (try clear c14b0); (try clear c15); (try clear c15b0); (try clear c16); (try clear c16b0); (try clear c17); (try clear c17b0); (try clear c18); (try clear c18b0); (try clear c20); (try clear c20b0); (try clear p20); (try clear q20); (try clear hx20); (try clear c21); (try clear c21b0); (try clear c22); (try clear c22b0); (try clear hcz10_0); (try clear hcz10_1); (try clear hcz10_2); (try clear hcz10_3); (try clear hcz10_4); (try clear hcz12_0); (try clear hcz12_1); (try clear hcz12_2); (try clear hcz12_3); (try clear hcz12_4); (try clear hcz23_0); (try clear hcz23_1); (try clear hcz23_2); (try clear hcz23_3); (try clear hcz23_4); (try clear hcz24_0); (try clear hcz24_1); (try clear hcz24_2); (try clear hcz24_3); (try clear hcz24_4); (try clear hcz4_0); (try clear hcz4_1); (try clear hcz4_2); (try clear hcz4_3); (try clear hcz4_4); (try clear hcz8_0); (try clear hcz8_1); (try clear hcz8_2); (try clear hcz8_3); (try clear hcz8_4); (try clear hcz9_0); (try clear hcz9_1); (try clear hcz9_2); (try clear hcz9_3); (try clear hcz9_4); (try clear hfz10_0); (try clear hfz10_1); (try clear hfz10_2); (try clear hfz10_3); (try clear hfz10_4); (try clear hfz12_0); (try clear hfz12_1); (try clear hfz12_2); (try clear hfz12_3); (try clear hfz12_4); (try clear hfz23_0); (try clear hfz23_1); (try clear hfz23_2); (try clear hfz23_3); (try clear hfz23_4); (try clear hfz24_0); (try clear hfz24_1); (try clear hfz24_2); (try clear hfz24_3); (try clear hfz24_4); (try clear hfz4_0); (try clear hfz4_1); (try clear hfz4_2); (try clear hfz4_3); (try clear hfz4_4); (try clear hfz8_0); (try clear hfz8_1); (try clear hfz8_2); (try clear hfz8_3); (try clear hfz8_4); (try clear hfz9_0); (try clear hfz9_1); (try clear hfz9_2); (try clear hfz9_3); (try clear hfz9_4); (try clear hx204_0); (try clear hx205_0); (try clear p2); (try clear p204); (try clear p205); (try clear q204); (try clear q205); obtain ⟨x6_3, rfl, HA, HK3, BK203, HB⟩ := hrel
        cases gk with
        | zero => exact absurd HA.out (by simp [serifref09_Sound.l1])
        | succ k3 =>
         have H := HA.out; clear HA
         simp only [serifref09_Sound.l1] at H
         by_cases c25 : x6_3 < (l0_0.length : Int)
         ·rw [if_pos c25] at H
          have c25b0 : decide (x6_3 < (l0_0.length : Int)) = true := decide_eq_true c25; clear c25
          by_cases c26 : 0 ≤ x6_3
          ·rw [if_pos c26] at H
           have c26b0 : decide (0 ≤ x6_3) = true := decide_eq_true c26; clear c26
           by_cases c27 : x6_3 < (l0_0.length : Int)
           ·rw [if_pos c27] at H
            have c27b0 : decide (x6_3 < (l0_0.length : Int)) = true := decide_eq_true c27; clear c27; replace H := Option.bind_eq_some_iff.mp H; obtain ⟨t207, A280, H⟩ := H; replace H : (if t207 = true then ((serifref01_Fix.f ((rd_T43 l0_0 x6_3).f1)).bind fun t209 => (if t209 = true then (if x6_3 < (l0_1.length : Int) then ((serifref01_Fix.f ((rd_T43 l0_1 x6_3).f0)).bind fun t211 => (if t211 = true then ((serifref01_Fix.f ((rd_T43 l0_1 x6_3).f1)).bind fun t213 => (if t213 = true then (serifref09_Sound.l1 k3 (l0_0.length : Int) (wrap64 (x6_3 + 1)) l0_0 l0_1 l0_2 l0_3 l0_4) else (some false))) else (some false))) else (none)) else (some false))) else (some false)) = some r := H; have A28 := aK A280; clear A280
            by_cases c29 : t207 = true
            ·subst c29
             have H1 : ((serifref01_Fix.f ((rd_T43 l0_0 x6_3).f1)).bind fun t209 => (if t209 = true then (if x6_3 < (l0_1.length : Int) then ((serifref01_Fix.f ((rd_T43 l0_1 x6_3).f0)).bind fun t211 => (if t211 = true then ((serifref01_Fix.f ((rd_T43 l0_1 x6_3).f1)).bind fun t213 => (if t213 = true then (serifref09_Sound.l1 k3 (l0_0.length : Int) (wrap64 (x6_3 + 1)) l0_0 l0_1 l0_2 l0_3 l0_4) else (some false))) else (some false))) else (none)) else (some false))) = some r := by rw [if_pos rfl] at H; exact H
             clear H; have H := H1; clear H1; replace H := Option.bind_eq_some_iff.mp H; obtain ⟨t209, A300, H⟩ := H; replace H : (if t209 = true then (if x6_3 < (l0_1.length : Int) then ((serifref01_Fix.f ((rd_T43 l0_1 x6_3).f0)).bind fun t211 => (if t211 = true then ((serifref01_Fix.f ((rd_T43 l0_1 x6_3).f1)).bind fun t213 => (if t213 = true then (serifref09_Sound.l1 k3 (l0_0.length : Int) (wrap64 (x6_3 + 1)) l0_0 l0_1 l0_2 l0_3 l0_4) else (some false))) else (some false))) else (none)) else (some false)) = some r := H; have A30 := aK A300; clear A300
             by_cases c31 : t209 = true
             ·subst c31
              have H1 : (if x6_3 < (l0_1.length : Int) then ((serifref01_Fix.f ((rd_T43 l0_1 x6_3).f0)).bind fun t211 => (if t211 = true then ((serifref01_Fix.f ((rd_T43 l0_1 x6_3).f1)).bind fun t213 => (if t213 = true then (serifref09_Sound.l1 k3 (l0_0.length : Int) (wrap64 (x6_3 + 1)) l0_0 l0_1 l0_2 l0_3 l0_4) else (some false))) else (some false))) else (none)) = some r := by rw [if_pos rfl] at H; exact H
              clear H; have H := H1; clear H1
              by_cases c32 : x6_3 < (l0_1.length : Int)
              ·rw [if_pos c32] at H
               have c32b0 : decide (x6_3 < (l0_1.length : Int)) = true := decide_eq_true c32; clear c32; replace H := Option.bind_eq_some_iff.mp H; obtain ⟨t211, A330, H⟩ := H; replace H : (if t211 = true then ((serifref01_Fix.f ((rd_T43 l0_1 x6_3).f1)).bind fun t213 => (if t213 = true then (serifref09_Sound.l1 k3 (l0_0.length : Int) (wrap64 (x6_3 + 1)) l0_0 l0_1 l0_2 l0_3 l0_4) else (some false))) else (some false)) = some r := H; have A33 := aK A330; clear A330
               by_cases c34 : t211 = true
               ·subst c34
                have H1 : ((serifref01_Fix.f ((rd_T43 l0_1 x6_3).f1)).bind fun t213 => (if t213 = true then (serifref09_Sound.l1 k3 (l0_0.length : Int) (wrap64 (x6_3 + 1)) l0_0 l0_1 l0_2 l0_3 l0_4) else (some false))) = some r := by rw [if_pos rfl] at H; exact H
                clear H; have H := H1; clear H1; replace H := Option.bind_eq_some_iff.mp H; obtain ⟨t213, A350, H⟩ := H; replace H : (if t213 = true then (serifref09_Sound.l1 k3 (l0_0.length : Int) (wrap64 (x6_3 + 1)) l0_0 l0_1 l0_2 l0_3 l0_4) else (some false)) = some r := H; have A35 := aK A350; clear A350
                by_cases c36 : t213 = true
                ·subst c36
                 have H1 : (serifref09_Sound.l1 k3 (l0_0.length : Int) (wrap64 (x6_3 + 1)) l0_0 l0_1 l0_2 l0_3 l0_4) = some r := by rw [if_pos rfl] at H; exact H
                 clear H; have H := H1; clear H1; have H' := aK H; clear H; have hcz37_0 := bc BK203.out 0 rfl; have hcz37_1 := bc BK203.out 1 rfl; have hcz37_2 := bc BK203.out 2 rfl; have hcz37_3 := bc BK203.out 3 rfl; have hcz37_4 := bc BK203.out 4 rfl; have hfz37_0 := bF BK203.out 0; have hfz37_1 := bF BK203.out 1; have hfz37_2 := bF BK203.out 2; have hfz37_3 := bF BK203.out 3; have hfz37_4 := bF BK203.out 4; have p206 : 0 ≤ (x6_3 : Int) := of_decide_eq_true (by first | (with_reducible assumption) | assumption); have q206 : x6_3 < (l0_0.length : Int) := of_decide_eq_true (by first | (with_reducible assumption) | assumption); obtain ⟨ad206, e206, hx206_0, hx206_1⟩ := at_T43 HR0_0.out x6_3 p206 q206
                 cases e206
                 replace hx206_0 := (HB.out.cell (World.block_lt_of_cell? w _ hx206_0)).trans hx206_0; replace hx206_1 := (HB.out.cell (World.block_lt_of_cell? w _ hx206_1)).trans hx206_1; replace p206 := eq_true p206; replace q206 := eq_true q206
                 go_wp2_with (first | ((with_reducible refine gate_callee (f := 15) rfl ?_); refine goesL_ (some 74) rfl rfl Try.func15 (by kernel_rfl) rfl #[.int .i64 ((rd_T43 l0_0 x6_3).f0)] rfl (by (try simp only [List.map_toArray, List.map_cons, List.map_nil]); first | done | rfl | (simp only [List.length_drop, List.length_take]; rfl)) ?_; (with_reducible refine (serifref01_Fix.calls ((rd_T43 l0_0 x6_3).f0) true _ A28.out).mono ?_); rintro e w' ⟨rfl, ⟨nd, rfl⟩⟩; refine ⟨_, rfl, ?_⟩; have p208 : 0 ≤ (x6_3 : Int) := of_decide_eq_true (by first | (with_reducible assumption) | assumption); have q208 : x6_3 < (l0_0.length : Int) := of_decide_eq_true (by first | (with_reducible assumption) | assumption); obtain ⟨ad208, e208, hx208_0, hx208_1⟩ := at_T43 HR0_0.out x6_3 p208 q208; obtain rfl : ad206 = ad208 := (by injection e208); replace hx208_0 := (HB.out.cell (World.block_lt_of_cell? w _ hx208_0)).trans hx208_0; replace hx208_1 := (HB.out.cell (World.block_lt_of_cell? w _ hx208_1)).trans hx208_1; replace p208 := eq_true p208; replace q208 := eq_true q208) | (go_at_call 15; (with_reducible refine (serifref01_Fix.calls ((rd_T43 l0_0 x6_3).f1) true _ A30.out).mono ?_); rintro e w' ⟨rfl, ⟨nd, rfl⟩⟩; have p210 : 0 ≤ (x6_3 : Int) := of_decide_eq_true (by first | (with_reducible assumption) | assumption); have q210 : x6_3 < (l0_1.length : Int) := of_decide_eq_true (by first | (with_reducible assumption) | assumption); obtain ⟨ad210, e210, hx210_0, hx210_1⟩ := at_T43 HR0_1.out x6_3 p210 q210; cases e210; replace hx210_0 := (HB.out.cell (World.block_lt_of_cell? w _ hx210_0)).trans hx210_0; replace hx210_1 := (HB.out.cell (World.block_lt_of_cell? w _ hx210_1)).trans hx210_1; replace p210 := eq_true p210; replace q210 := eq_true q210) | (go_at_call 15; (with_reducible refine (serifref01_Fix.calls ((rd_T43 l0_1 x6_3).f0) true _ A33.out).mono ?_); rintro e w' ⟨rfl, ⟨nd, rfl⟩⟩; have p212 : 0 ≤ (x6_3 : Int) := of_decide_eq_true (by first | (with_reducible assumption) | assumption); have q212 : x6_3 < (l0_1.length : Int) := of_decide_eq_true (by first | (with_reducible assumption) | assumption); obtain ⟨ad212, e212, hx212_0, hx212_1⟩ := at_T43 HR0_1.out x6_3 p212 q212; obtain rfl : ad210 = ad212 := (by injection e212); replace hx212_0 := (HB.out.cell (World.block_lt_of_cell? w _ hx212_0)).trans hx212_0; replace hx212_1 := (HB.out.cell (World.block_lt_of_cell? w _ hx212_1)).trans hx212_1; replace p212 := eq_true p212; replace q212 := eq_true q212) | (go_at_call 15; (with_reducible refine (serifref01_Fix.calls ((rd_T43 l0_1 x6_3).f1) true _ A35.out).mono ?_); rintro e w' ⟨rfl, ⟨nd, rfl⟩⟩))
                 go_roundg k3
                 case measure => have := HJ1.out; have := HK2.out; have := HK3.out; omega
                 case rel => exact ⟨(wrap64 (x6_3 + 1)), (by first | rfl | (simp; done) | (simp [*]; done)), H', ⟨by have := HJ1.out; have := HK2.out; have := HK3.out; omega⟩, ⟨BK203.out⟩, ⟨by with_reducible repeat first | exact HB.out | apply lN | apply lD | refine lS ?_ GE203.out⟩⟩
                ·replace c36 := Bool.eq_false_iff.mpr c36
                 subst c36; have H1 : (some false) = some r := by rw [if_neg (show ¬ (false = true) by decide)] at H; exact H
                 clear H; have H := H1; clear H1; obtain rfl := Option.some.inj H; have hcz38_0 := bc BK203.out 0 rfl; have hcz38_1 := bc BK203.out 1 rfl; have hcz38_2 := bc BK203.out 2 rfl; have hcz38_3 := bc BK203.out 3 rfl; have hcz38_4 := bc BK203.out 4 rfl; have hfz38_0 := bF BK203.out 0; have hfz38_1 := bF BK203.out 1; have hfz38_2 := bF BK203.out 2; have hfz38_3 := bF BK203.out 3; have hfz38_4 := bF BK203.out 4; have p206 : 0 ≤ (x6_3 : Int) := of_decide_eq_true (by first | (with_reducible assumption) | assumption); have q206 : x6_3 < (l0_0.length : Int) := of_decide_eq_true (by first | (with_reducible assumption) | assumption); obtain ⟨ad206, e206, hx206_0, hx206_1⟩ := at_T43 HR0_0.out x6_3 p206 q206
                 cases e206
                 replace hx206_0 := (HB.out.cell (World.block_lt_of_cell? w _ hx206_0)).trans hx206_0; replace hx206_1 := (HB.out.cell (World.block_lt_of_cell? w _ hx206_1)).trans hx206_1; replace p206 := eq_true p206; replace q206 := eq_true q206
                 go_wp2_with (first | ((with_reducible refine gate_callee (f := 15) rfl ?_); refine goesL_ (some 74) rfl rfl Try.func15 (by kernel_rfl) rfl #[.int .i64 ((rd_T43 l0_0 x6_3).f0)] rfl (by (try simp only [List.map_toArray, List.map_cons, List.map_nil]); first | done | rfl | (simp only [List.length_drop, List.length_take]; rfl)) ?_; (with_reducible refine (serifref01_Fix.calls ((rd_T43 l0_0 x6_3).f0) true _ A28.out).mono ?_); rintro e w' ⟨rfl, ⟨nd, rfl⟩⟩; refine ⟨_, rfl, ?_⟩; have p208 : 0 ≤ (x6_3 : Int) := of_decide_eq_true (by first | (with_reducible assumption) | assumption); have q208 : x6_3 < (l0_0.length : Int) := of_decide_eq_true (by first | (with_reducible assumption) | assumption); obtain ⟨ad208, e208, hx208_0, hx208_1⟩ := at_T43 HR0_0.out x6_3 p208 q208; obtain rfl : ad206 = ad208 := (by injection e208); replace hx208_0 := (HB.out.cell (World.block_lt_of_cell? w _ hx208_0)).trans hx208_0; replace hx208_1 := (HB.out.cell (World.block_lt_of_cell? w _ hx208_1)).trans hx208_1; replace p208 := eq_true p208; replace q208 := eq_true q208) | (go_at_call 15; (with_reducible refine (serifref01_Fix.calls ((rd_T43 l0_0 x6_3).f1) true _ A30.out).mono ?_); rintro e w' ⟨rfl, ⟨nd, rfl⟩⟩; have p210 : 0 ≤ (x6_3 : Int) := of_decide_eq_true (by first | (with_reducible assumption) | assumption); have q210 : x6_3 < (l0_1.length : Int) := of_decide_eq_true (by first | (with_reducible assumption) | assumption); obtain ⟨ad210, e210, hx210_0, hx210_1⟩ := at_T43 HR0_1.out x6_3 p210 q210; cases e210; replace hx210_0 := (HB.out.cell (World.block_lt_of_cell? w _ hx210_0)).trans hx210_0; replace hx210_1 := (HB.out.cell (World.block_lt_of_cell? w _ hx210_1)).trans hx210_1; replace p210 := eq_true p210; replace q210 := eq_true q210) | (go_at_call 15; (with_reducible refine (serifref01_Fix.calls ((rd_T43 l0_1 x6_3).f0) true _ A33.out).mono ?_); rintro e w' ⟨rfl, ⟨nd, rfl⟩⟩; have p212 : 0 ≤ (x6_3 : Int) := of_decide_eq_true (by first | (with_reducible assumption) | assumption); have q212 : x6_3 < (l0_1.length : Int) := of_decide_eq_true (by first | (with_reducible assumption) | assumption); obtain ⟨ad212, e212, hx212_0, hx212_1⟩ := at_T43 HR0_1.out x6_3 p212 q212; obtain rfl : ad210 = ad212 := (by injection e212); replace hx212_0 := (HB.out.cell (World.block_lt_of_cell? w _ hx212_0)).trans hx212_0; replace hx212_1 := (HB.out.cell (World.block_lt_of_cell? w _ hx212_1)).trans hx212_1; replace p212 := eq_true p212; replace q212 := eq_true q212) | (go_at_call 15; (with_reducible refine (serifref01_Fix.calls ((rd_T43 l0_1 x6_3).f1) false _ A35.out).mono ?_); rintro e w' ⟨rfl, ⟨nd, rfl⟩⟩))
                 go_ret
                 exact ⟨by first | rfl | (simp [errW_none, errW_some] <;> rfl) | (simp [*, errW_none, errW_some] <;> rfl), by with_reducible repeat first | exact HB.out | apply lN | apply lD | refine lS ?_ GE203.out⟩
               ·replace c34 := Bool.eq_false_iff.mpr c34
                subst c34; have H1 : (some false) = some r := by rw [if_neg (show ¬ (false = true) by decide)] at H; exact H
                clear H; have H := H1; clear H1; obtain rfl := Option.some.inj H; have hcz39_0 := bc BK203.out 0 rfl; have hcz39_1 := bc BK203.out 1 rfl; have hcz39_2 := bc BK203.out 2 rfl; have hcz39_3 := bc BK203.out 3 rfl; have hcz39_4 := bc BK203.out 4 rfl; have hfz39_0 := bF BK203.out 0; have hfz39_1 := bF BK203.out 1; have hfz39_2 := bF BK203.out 2; have hfz39_3 := bF BK203.out 3; have hfz39_4 := bF BK203.out 4; have p206 : 0 ≤ (x6_3 : Int) := of_decide_eq_true (by first | (with_reducible assumption) | assumption); have q206 : x6_3 < (l0_0.length : Int) := of_decide_eq_true (by first | (with_reducible assumption) | assumption); obtain ⟨ad206, e206, hx206_0, hx206_1⟩ := at_T43 HR0_0.out x6_3 p206 q206
                cases e206
                replace hx206_0 := (HB.out.cell (World.block_lt_of_cell? w _ hx206_0)).trans hx206_0; replace hx206_1 := (HB.out.cell (World.block_lt_of_cell? w _ hx206_1)).trans hx206_1; replace p206 := eq_true p206; replace q206 := eq_true q206
                go_wp2_with (first | ((with_reducible refine gate_callee (f := 15) rfl ?_); refine goesL_ (some 74) rfl rfl Try.func15 (by kernel_rfl) rfl #[.int .i64 ((rd_T43 l0_0 x6_3).f0)] rfl (by (try simp only [List.map_toArray, List.map_cons, List.map_nil]); first | done | rfl | (simp only [List.length_drop, List.length_take]; rfl)) ?_; (with_reducible refine (serifref01_Fix.calls ((rd_T43 l0_0 x6_3).f0) true _ A28.out).mono ?_); rintro e w' ⟨rfl, ⟨nd, rfl⟩⟩; refine ⟨_, rfl, ?_⟩; have p208 : 0 ≤ (x6_3 : Int) := of_decide_eq_true (by first | (with_reducible assumption) | assumption); have q208 : x6_3 < (l0_0.length : Int) := of_decide_eq_true (by first | (with_reducible assumption) | assumption); obtain ⟨ad208, e208, hx208_0, hx208_1⟩ := at_T43 HR0_0.out x6_3 p208 q208; obtain rfl : ad206 = ad208 := (by injection e208); replace hx208_0 := (HB.out.cell (World.block_lt_of_cell? w _ hx208_0)).trans hx208_0; replace hx208_1 := (HB.out.cell (World.block_lt_of_cell? w _ hx208_1)).trans hx208_1; replace p208 := eq_true p208; replace q208 := eq_true q208) | (go_at_call 15; (with_reducible refine (serifref01_Fix.calls ((rd_T43 l0_0 x6_3).f1) true _ A30.out).mono ?_); rintro e w' ⟨rfl, ⟨nd, rfl⟩⟩; have p210 : 0 ≤ (x6_3 : Int) := of_decide_eq_true (by first | (with_reducible assumption) | assumption); have q210 : x6_3 < (l0_1.length : Int) := of_decide_eq_true (by first | (with_reducible assumption) | assumption); obtain ⟨ad210, e210, hx210_0, hx210_1⟩ := at_T43 HR0_1.out x6_3 p210 q210; cases e210; replace hx210_0 := (HB.out.cell (World.block_lt_of_cell? w _ hx210_0)).trans hx210_0; replace hx210_1 := (HB.out.cell (World.block_lt_of_cell? w _ hx210_1)).trans hx210_1; replace p210 := eq_true p210; replace q210 := eq_true q210) | (go_at_call 15; (with_reducible refine (serifref01_Fix.calls ((rd_T43 l0_1 x6_3).f0) false _ A33.out).mono ?_); rintro e w' ⟨rfl, ⟨nd, rfl⟩⟩))
                go_ret
                exact ⟨by first | rfl | (simp [errW_none, errW_some] <;> rfl) | (simp [*, errW_none, errW_some] <;> rfl), by with_reducible repeat first | exact HB.out | apply lN | apply lD | refine lS ?_ GE203.out⟩
              ·rw [if_neg c32] at H
               exact absurd H (by simp)
             ·replace c31 := Bool.eq_false_iff.mpr c31
              subst c31; have H1 : (some false) = some r := by rw [if_neg (show ¬ (false = true) by decide)] at H; exact H
              clear H; have H := H1; clear H1; obtain rfl := Option.some.inj H; have hcz40_0 := bc BK203.out 0 rfl; have hcz40_1 := bc BK203.out 1 rfl; have hcz40_2 := bc BK203.out 2 rfl; have hcz40_3 := bc BK203.out 3 rfl; have hcz40_4 := bc BK203.out 4 rfl; have hfz40_0 := bF BK203.out 0; have hfz40_1 := bF BK203.out 1; have hfz40_2 := bF BK203.out 2; have hfz40_3 := bF BK203.out 3; have hfz40_4 := bF BK203.out 4; have p206 : 0 ≤ (x6_3 : Int) := of_decide_eq_true (by first | (with_reducible assumption) | assumption); have q206 : x6_3 < (l0_0.length : Int) := of_decide_eq_true (by first | (with_reducible assumption) | assumption); obtain ⟨ad206, e206, hx206_0, hx206_1⟩ := at_T43 HR0_0.out x6_3 p206 q206
              cases e206
              replace hx206_0 := (HB.out.cell (World.block_lt_of_cell? w _ hx206_0)).trans hx206_0; replace hx206_1 := (HB.out.cell (World.block_lt_of_cell? w _ hx206_1)).trans hx206_1; replace p206 := eq_true p206; replace q206 := eq_true q206
              go_wp2_with (first | ((with_reducible refine gate_callee (f := 15) rfl ?_); refine goesL_ (some 74) rfl rfl Try.func15 (by kernel_rfl) rfl #[.int .i64 ((rd_T43 l0_0 x6_3).f0)] rfl (by (try simp only [List.map_toArray, List.map_cons, List.map_nil]); first | done | rfl | (simp only [List.length_drop, List.length_take]; rfl)) ?_; (with_reducible refine (serifref01_Fix.calls ((rd_T43 l0_0 x6_3).f0) true _ A28.out).mono ?_); rintro e w' ⟨rfl, ⟨nd, rfl⟩⟩; refine ⟨_, rfl, ?_⟩; have p208 : 0 ≤ (x6_3 : Int) := of_decide_eq_true (by first | (with_reducible assumption) | assumption); have q208 : x6_3 < (l0_0.length : Int) := of_decide_eq_true (by first | (with_reducible assumption) | assumption); obtain ⟨ad208, e208, hx208_0, hx208_1⟩ := at_T43 HR0_0.out x6_3 p208 q208; obtain rfl : ad206 = ad208 := (by injection e208); replace hx208_0 := (HB.out.cell (World.block_lt_of_cell? w _ hx208_0)).trans hx208_0; replace hx208_1 := (HB.out.cell (World.block_lt_of_cell? w _ hx208_1)).trans hx208_1; replace p208 := eq_true p208; replace q208 := eq_true q208) | (go_at_call 15; (with_reducible refine (serifref01_Fix.calls ((rd_T43 l0_0 x6_3).f1) false _ A30.out).mono ?_); rintro e w' ⟨rfl, ⟨nd, rfl⟩⟩))
              go_ret
              exact ⟨by first | rfl | (simp [errW_none, errW_some] <;> rfl) | (simp [*, errW_none, errW_some] <;> rfl), by with_reducible repeat first | exact HB.out | apply lN | apply lD | refine lS ?_ GE203.out⟩
            ·replace c29 := Bool.eq_false_iff.mpr c29
             subst c29; have H1 : (some false) = some r := by rw [if_neg (show ¬ (false = true) by decide)] at H; exact H
             clear H; have H := H1; clear H1; obtain rfl := Option.some.inj H; have hcz41_0 := bc BK203.out 0 rfl; have hcz41_1 := bc BK203.out 1 rfl; have hcz41_2 := bc BK203.out 2 rfl; have hcz41_3 := bc BK203.out 3 rfl; have hcz41_4 := bc BK203.out 4 rfl; have hfz41_0 := bF BK203.out 0; have hfz41_1 := bF BK203.out 1; have hfz41_2 := bF BK203.out 2; have hfz41_3 := bF BK203.out 3; have hfz41_4 := bF BK203.out 4; have p206 : 0 ≤ (x6_3 : Int) := of_decide_eq_true (by first | (with_reducible assumption) | assumption); have q206 : x6_3 < (l0_0.length : Int) := of_decide_eq_true (by first | (with_reducible assumption) | assumption); obtain ⟨ad206, e206, hx206_0, hx206_1⟩ := at_T43 HR0_0.out x6_3 p206 q206
             cases e206
             replace hx206_0 := (HB.out.cell (World.block_lt_of_cell? w _ hx206_0)).trans hx206_0; replace hx206_1 := (HB.out.cell (World.block_lt_of_cell? w _ hx206_1)).trans hx206_1; replace p206 := eq_true p206; replace q206 := eq_true q206
             go_wp2_with (first | ((with_reducible refine gate_callee (f := 15) rfl ?_); refine goesL_ (some 74) rfl rfl Try.func15 (by kernel_rfl) rfl #[.int .i64 ((rd_T43 l0_0 x6_3).f0)] rfl (by (try simp only [List.map_toArray, List.map_cons, List.map_nil]); first | done | rfl | (simp only [List.length_drop, List.length_take]; rfl)) ?_; (with_reducible refine (serifref01_Fix.calls ((rd_T43 l0_0 x6_3).f0) false _ A28.out).mono ?_); rintro e w' ⟨rfl, ⟨nd, rfl⟩⟩; refine ⟨_, rfl, ?_⟩))
             go_ret
             exact ⟨by first | rfl | (simp [errW_none, errW_some] <;> rfl) | (simp [*, errW_none, errW_some] <;> rfl), by with_reducible repeat first | exact HB.out | apply lN | apply lD | refine lS ?_ GE203.out⟩
           ·rw [if_neg c27] at H
            exact absurd H (by simp)
          ·rw [if_neg c26] at H
           exact absurd H (by simp)
         ·rw [if_neg c25] at H
          have c25b0 : decide (x6_3 < (l0_0.length : Int)) = false := decide_eq_false c25; clear c25; obtain rfl := Option.some.inj H
          go_wp2
          go_ret
          exact ⟨by first | rfl | (simp [errW_none, errW_some] <;> rfl) | (simp [*, errW_none, errW_some] <;> rfl), by with_reducible repeat first | exact HB.out | apply lN | apply lD | refine lS ?_ GE203.out⟩

end Go.Proofs.Ytneiaobhjjbedaa.PGstateZones
