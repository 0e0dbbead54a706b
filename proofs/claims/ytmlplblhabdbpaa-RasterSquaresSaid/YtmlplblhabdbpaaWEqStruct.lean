/- Words of the printed walks: those that this claim names, each a plain theorem or definition; no condition but those that each states. -/
import Derived.Test.YtmlplblhabdbpaaWWords
import Derived.Laws.StructEq
/-! ### 53. '==' of structs as_ one Bool -/
namespace Go.Proofs.YtmlplblhabdbpaaW.PrintWords
open Go.RowKit
section
variable {P : Program} {d : Nat} {xs ys : Array Value} {f : Field} {fs : List Field} {a b : Value} {r s : Bool} {w : World}
end
end Go.Proofs.YtmlplblhabdbpaaW.PrintWords
