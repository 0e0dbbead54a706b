/- Words of the printed walks: those that this claim names, each a plain theorem or definition; no condition but those that each states. -/
import Derived.Test.YtmlplblhabdbpaaWInv
import Derived.Test.YtmlplblhabdbpaaWFootNe
namespace Go.Proofs.YtmlplblhabdbpaaW.PrintWords
open Go.RowKit
end Go.Proofs.YtmlplblhabdbpaaW.PrintWords
namespace Go.Proofs.YtmlplblhabdbpaaW.PrintLast
section
variable {ops : Array Oper} {a : Act} {o og : Oper} {g : Nat} {t : Tmp} {u : Bool}
end
end Go.Proofs.YtmlplblhabdbpaaW.PrintLast
