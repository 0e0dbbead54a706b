/- The evaluator says true of the chapter's examples of layer 9: a closed reckoning, no condition. -/
import Derived.Test.YtneiaobhjjbedaaEv0
import Derived.Test.YtneiaobhjjbedaaProg
import Derived.KernelRfl
namespace Go.Proofs.Ytneiaobhjjbedaa

set_option maxRecDepth 1000000 in
theorem gstateAlive_run : Ab.okTrue (Ab.evalF (Ab.fnsOf Try.prog) Try.prog 12 10000 12 [] ⟨.leaf, 12⟩) = true := by kernel_rfl

end Go.Proofs.Ytneiaobhjjbedaa
