/- The rest of the run of LayoutNames: a closed reckoning, no condition. -/
import Derived.Test.YtnpkjkingaachaaGreatLayoutNamesEnt
import Derived.Test.YtnpkjkingaachaaGreatProg
import Derived.KernelRfl
namespace Go.Proofs.YtnpkjkingaachaaGreat.Pieces
open Go.Ab

set_option maxRecDepth 1000000 in
theorem run_all : okTrue (evalFM (fnsOf Tryz.prog) Tryz.prog 12 [e_box, e_load, e_line] 100000 3 [] ⟨.leaf, 12⟩) = true := by kernel_rfl

end Go.Proofs.YtnpkjkingaachaaGreat.Pieces
