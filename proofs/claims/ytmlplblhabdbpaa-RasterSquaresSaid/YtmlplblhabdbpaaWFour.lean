/- Words of the printed walks: those that this claim names, each a plain theorem or definition; no condition but those that each states. -/
import Derived.Test.YtmlplblhabdbpaaWTab
/-! ### 56. Four, five, six operations that may come up next, in any order -/
namespace Go.Proofs.YtmlplblhabdbpaaW.PrintLast
section
variable {P : Program} {ops : Array Oper} {Q : Exit → Act → World → Prop} {md : Region.Mode} {S : World → Prop} {ds : List Nat} {T : Bool × List (List Nat × List Nat)}
end
end Go.Proofs.YtmlplblhabdbpaaW.PrintLast
