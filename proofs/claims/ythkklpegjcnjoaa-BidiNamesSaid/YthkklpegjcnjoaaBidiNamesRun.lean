/- The evaluator says true of the function of BidiNames: a closed reckoning, no condition. -/
import Derived.Test.YthkklpegjcnjoaaEv24
import Derived.Test.YthkklpegjcnjoaaProg
namespace Go.Proofs.Ythkklpegjcnjoaa

theorem Try.names : Ab.namesOk Try.prog = true := by kernel_rfl

set_option maxRecDepth 1000000 in
theorem bidiNames_run : Ab.okTrue (Ab.evalF (Ab.fnsOf Try.prog) Try.prog 12 100000 3 [] ⟨.leaf, 12⟩) = true := by kernel_rfl

end Go.Proofs.Ythkklpegjcnjoaa
