/- The evaluator says true of the chapter's examples of layer 13: a closed reckoning, no condition. -/
import Derived.Test.YthkklpegjcnjoaaEv0
import Derived.Test.YthkklpegjcnjoaaProg
import Derived.KernelRfl
namespace Go.Proofs.Ythkklpegjcnjoaa
set_option maxRecDepth 1000000 in
theorem bidiAlive_run:Ab.okTrue (Ab.evalF (Ab.fnsOf Try.prog) Try.prog 12 100000 13 [] ⟨.leaf,12⟩)=true:=by kernel_rfl
end Go.Proofs.Ythkklpegjcnjoaa
