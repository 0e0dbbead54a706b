/- A piece of the run of LayoutNames: a closed reckoning, no condition. -/
import Derived.Test.YtnpkjkingaachaaGreatLayoutNamesEnt
import Derived.Test.YtnpkjkingaachaaGreatProg
import Derived.KernelRfl
namespace Go.Proofs.YtnpkjkingaachaaGreat.Pieces
open Go.Ab

set_option maxRecDepth 1000000 in
theorem run_box : checkE (fnsOf Tryz.prog) Tryz.prog 12 [] 100000 e_box = true := by kernel_rfl

end Go.Proofs.YtnpkjkingaachaaGreat.Pieces
