/- A part of the proof of the law RunsParagraphs: plain functions and what the machine's calls of them come to; printed by wip/extprint.py out of the kit's printer and contracts of our own. No condition but an answer of the plain function. -/
import Derived.Test.YthkklpegjcnjoaaPRunsParagraphsx0
namespace Go.Proofs.Ythkklpegjcnjoaa.PRunsParagraphs
open Go.RowKit Go.Proofs.YthkklpegjcnjoaaW.PrintWords Go.Proofs.YthkklpegjcnjoaaW.PrintLast Go.Proofs.YthkklpegjcnjoaaW.PrintMore
noncomputable section
attribute [local go_sem] max2_int min2_int max_two min_two max_three min_three max_four min_four   -- for this text's walks alone
set_option linter.unusedVariables false
set_option linter.unusedSimpArgs false

theorem eqA39 (d : Nat) (w : World) (x0 y0 : Int) (x1 y1 : Int) :
    (Op.equalIn (d + 2) 39 (.agg #[.int .i64 x0, .int .i64 x1]) (.agg #[.int .i64 y0, .int .i64 y1])).run Try.prog w = .ok (x0 == y0 && (x1 == y1)) w := by
  exact Go.Proofs.Ythkklpegjcnjoaa.arr39 d w x0 y0 x1 y1
end
end Go.Proofs.Ythkklpegjcnjoaa.PRunsParagraphs
