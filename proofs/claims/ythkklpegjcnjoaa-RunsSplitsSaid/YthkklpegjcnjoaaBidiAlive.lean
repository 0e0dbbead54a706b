/- The chapter's examples of layer 13 come out true from every world: no condition. -/
import Derived.Test.YthkklpegjcnjoaaEvC
import Derived.Test.YthkklpegjcnjoaaBidiAliveRun
namespace Go.Proofs.Ythkklpegjcnjoaa
open Go.RowKit
theorem Try.names:Ab.namesOk Try.prog=true:=by kernel_rfl
theorem bidiAlive_calls (w:World):Calls Try.prog 13 #[] w fun e w'=>e = .returned (.bool true)∧Below w.heap.size w w':=Ab.calls_true Try.names bidiAlive_run w
end Go.Proofs.Ythkklpegjcnjoaa
