/- The evaluator says true of the chapter's examples of layer 21: a closed reckoning, no condition. -/
import Derived.Test.YtmlplblhabdbpaaEv0
import Derived.Test.YtmlplblhabdbpaaProg
import Derived.KernelRfl
namespace Go.Proofs.Ytmlplblhabdbpaa

set_option maxRecDepth 1000000 in
theorem rasterAlive_run : Ab.okTrue (Ab.evalF (Ab.fnsOf Try.prog) Try.prog 12 100000 9 [] ⟨.leaf, 12⟩) = true := by kernel_rfl

end Go.Proofs.Ytmlplblhabdbpaa
