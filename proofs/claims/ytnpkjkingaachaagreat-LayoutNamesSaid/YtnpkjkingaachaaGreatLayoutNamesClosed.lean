/- What the row of LayoutNames says of the program, told by the program itself: closed reckonings, no condition. -/
import Derived.Test.YtnpkjkingaachaaGreatRows
import Derived.ProofKit
namespace Go.Proofs.YtnpkjkingaachaaGreat
open Go.ChangeShapes Go.WideShapes Go.ChangeAt Go.RowKit

theorem layoutNames_p1 : (Rows.layoutNamesRow.inPlace == Tryz.pinned.checked.prog.inPlace 3) = true := by kernel_rfl
theorem layoutNames_p2 : (Rows.layoutNamesRow.unfollowed == Tryz.pinned.checked.prog.unfollowed 3) = true := by kernel_rfl
theorem layoutNames_p3 : (Rows.layoutNamesRow.recurses == Tryz.pinned.checked.prog.recurses 3) = true := by kernel_rfl
theorem layoutNames_p4 : (Rows.layoutNamesRow.named == Tryz.pinned.checked.prog.varsNamed 3) = true := by kernel_rfl
theorem layoutNames_closed : joinedFacts Tryz.pinned.checked.prog 3 Tryz.f3 Rows.layoutNamesSpec Rows.layoutNamesRow = true := by
  unfold joinedFacts
  rw [layoutNames_p1, layoutNames_p2, layoutNames_p3, layoutNames_p4]
  kernel_rfl

end Go.Proofs.YtnpkjkingaachaaGreat
