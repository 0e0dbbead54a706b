/- The chapter's examples of layer 14 come out true from every world: no condition. -/
import Derived.Test.YthkklpegjcnjoaaEvC
import Derived.Test.YthkklpegjcnjoaaRunsAliveRun
import Derived.Test.YthkklpegjcnjoaaLook
namespace Go.Proofs.Ythkklpegjcnjoaa
open Go.RowKit
theorem runsAlive_calls (w:World):Calls Try.prog 23 #[] w fun e w'=>e = .returned (.bool true)∧Below w.heap.size w w':=Ab.calls_true tbl_names runsAlive_run w
end Go.Proofs.Ythkklpegjcnjoaa
