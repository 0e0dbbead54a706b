/- Words of the printed walks: those that this claim names, each a plain theorem or definition; no condition but those that each states. -/
import Derived.Test.YtmlplblhabdbpaaWWords
/-! ### 58. A guarded operation whose guard is known to want it: the same goal without the guard -/
namespace Go.Proofs.YtmlplblhabdbpaaW.PrintWords
open Go.RowKit
section
variable {P : Program} {ops : Array Oper} {rest : List Oper} {o : Oper} {a : Act} {Q : Exit → Act → World → Prop} {W : World}
end
end Go.Proofs.YtmlplblhabdbpaaW.PrintWords
