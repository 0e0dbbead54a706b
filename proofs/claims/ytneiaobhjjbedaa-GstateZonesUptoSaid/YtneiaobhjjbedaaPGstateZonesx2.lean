/- A part of the proof of the law GstateZones: plain functions and what the machine's calls of them come to; printed by wip/extprint.py out of the kit's printer and contracts of our own. No condition but an answer of the plain function. -/
import Derived.Test.YtneiaobhjjbedaaPGstateZonesx0
namespace Go.Proofs.Ytneiaobhjjbedaa.PGstateZones
open Go.RowKit Go.Proofs.YtneiaobhjjbedaaW.PrintWords Go.Proofs.YtneiaobhjjbedaaW.PrintLast Go.Proofs.YtneiaobhjjbedaaW.PrintMore
attribute [local go_sem] max2_int min2_int max_two min_two max_three min_three max_four min_four   -- for this text's walks alone
open Go.Value renaming ownBlock → oB
open Aside0 renaming mk → aK
open Go.Proofs.Ytneiaobhjjbedaa (st1 st2 st3 st5 st55 bc)
open Go.Proofs.YtneiaobhjjbedaaW.PrintWords renaming blk_drewN → bN, blk_drew → bD, blk_alloc → bA, below_alloc → lA, pw_below_drewN → lN, below_drew1 → lD, below_set → lS, blk_below → bB, blk_grown → bG, blk_cell → bC, blk_frozen → bF, blk_far → bR, blk_put → bP, below_size → lZ, below_step → lT
open Go.Proofs.YtneiaobhjjbedaaW.PrintWords.Kd renaming R_alloc → rA, R_drewN → rN, R_drew → rD, R_far → rF, R_mono → rM, R_below → rB, R_types → rT, R_grown → rG, C_alloc → cA, C_drewN → cN, C_drew → cD, R_reads' → rR
set_option linter.unusedVariables false
set_option linter.unusedSimpArgs false

theorem eqA48 (d : Nat) (w : World) (x0 y0 : Int) (x1 y1 : Int) (x2 y2 : Int) :
    (Op.equalIn (d + 2) 48 (.agg #[.int .i64 x0, .int .i64 x1, .int .i64 x2]) (.agg #[.int .i64 y0, .int .i64 y1, .int .i64 y2])).run Try.prog w = .ok (x0 == y0 && (x1 == y1 && (x2 == y2))) w := by
  refine eqA_of Try.underlying48 (by kernel_rfl) ?_
  refine eqf_cons (by rfl) (by go_simp; rfl) (by go_simp; rfl) (by go_simp) ?_
  refine eqf_cons (by rfl) (by go_simp; rfl) (by go_simp; rfl) (by go_simp) ?_
  exact eqf_last (by rfl) (by go_simp; rfl) (by go_simp; rfl) (by go_simp)
end Go.Proofs.Ytneiaobhjjbedaa.PGstateZones
