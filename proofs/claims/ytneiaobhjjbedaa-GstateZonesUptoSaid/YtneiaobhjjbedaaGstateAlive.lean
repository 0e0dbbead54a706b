/- The chapter's examples of layer 9 come out true from every world: no condition. -/
import Derived.Test.YtneiaobhjjbedaaEvC
import Derived.Test.YtneiaobhjjbedaaGstateAliveRun
namespace Go.Proofs.Ytneiaobhjjbedaa
open Go.RowKit

theorem ab_names : Ab.namesOk Try.prog = true := by kernel_rfl

theorem gstateAlive_calls (w : World) : Calls Try.prog 12 #[] w fun e w' => e = .returned (.bool true) ∧ Below w.heap.size w w' := Ab.calls_true ab_names gstateAlive_run w

end Go.Proofs.Ytneiaobhjjbedaa
