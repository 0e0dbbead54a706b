/- The chapter's examples of layer 21 come out true from every world: no condition. -/
import Derived.Test.YtmlplblhabdbpaaEvC
import Derived.Test.YtmlplblhabdbpaaRasterAliveRun
namespace Go.Proofs.Ytmlplblhabdbpaa
open Go.RowKit

theorem ab_names : Ab.namesOk Try.prog = true := by kernel_rfl

theorem rasterAlive_calls (w : World) : Calls Try.prog 9 #[] w fun e w' => e = .returned (.bool true) ∧ Below w.heap.size w w' := Ab.calls_true ab_names rasterAlive_run w

end Go.Proofs.Ytmlplblhabdbpaa
