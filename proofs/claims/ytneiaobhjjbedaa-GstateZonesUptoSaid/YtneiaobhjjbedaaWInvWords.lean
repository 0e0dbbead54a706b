/- Words of the printed walks: those that this claim names, each a plain theorem or definition; no condition but those that each states. -/
import Derived.Test.YtneiaobhjjbedaaWInv
import Derived.Test.YtneiaobhjjbedaaWFootNe
namespace Go.Proofs.YtneiaobhjjbedaaW.PrintWords
open Go.RowKit
end Go.Proofs.YtneiaobhjjbedaaW.PrintWords
namespace Go.Proofs.YtneiaobhjjbedaaW.PrintLast
section
variable {ops : Array Oper} {a : Act} {o og : Oper} {g : Nat} {t : Tmp} {u : Bool}
end
end Go.Proofs.YtneiaobhjjbedaaW.PrintLast
