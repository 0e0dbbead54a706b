/- A part of the proof of the law BidiBases: plain functions and what the machine's calls of them come to; printed by wip/extprint.py out of the kit's printer and contracts of our own. No condition but an answer of the plain function. -/
import Derived.Test.YthkklpegjcnjoaaProg
import Derived.Below
import Derived.Deep.Draws
import Derived.Deep.AppendLies
import Derived.Maps.AppendAt
import Derived.OwnWalk
import Derived.Laws.BytesArg
import Derived.Laws.MakeOwn
import Derived.Laws.OwnMore
import Derived.Deep.OwnRows
import Derived.Tactics
import Derived.Lib.ConvBytes
import Derived.Laws.Slices
import Derived.WalkKit
import Derived.KernelRfl
import Derived.RowKit3
import Derived.Deep.LoopGhost
import Derived.Deep.QuietTactic
import Derived.BigQuiet
import Derived.WideLaws
import Derived.Deep.DeepCutAuto
import Derived.Deep.CutBlock
import Derived.Deep.RegionHeld3
import Derived.Laws.Rows
import Derived.Lib.AppendStr
import Derived.ArgAppend
import Derived.Laws.IdiomCopy
import Derived.OrdersHeld
import Derived.Laws.BitsLemmas
import Derived.RowKit
import Derived.Test.YthkklpegjcnjoaaLook2
import Derived.Test.YthkklpegjcnjoaaRefLook
import Derived.Test.YthkklpegjcnjoaaBidiAlive
import Derived.Test.YthkklpegjcnjoaaFields
import Derived.Test.YthkklpegjcnjoaaWWords
import Derived.Test.YthkklpegjcnjoaaWLast
import Derived.Test.YthkklpegjcnjoaaWTab
import Derived.Test.YthkklpegjcnjoaaWFour
import Derived.Test.YthkklpegjcnjoaaWQPut
import Derived.Test.YthkklpegjcnjoaaWApart
import Derived.Test.YthkklpegjcnjoaaWArr
import Derived.Test.YthkklpegjcnjoaaWZeros
import Derived.Test.YthkklpegjcnjoaaWFoot
import Derived.Test.YthkklpegjcnjoaaWKept
import Derived.Test.YthkklpegjcnjoaaWShare
import Derived.Test.YthkklpegjcnjoaaWN
import Derived.Test.YthkklpegjcnjoaaWFootNe
import Derived.Test.YthkklpegjcnjoaaWAt
import Derived.Test.YthkklpegjcnjoaaWEqStruct
import Derived.Test.YthkklpegjcnjoaaWRepsOne
import Derived.Test.YthkklpegjcnjoaaWInv
import Derived.Test.YthkklpegjcnjoaaWInvWords
import Derived.Test.YthkklpegjcnjoaaWGuard
import Derived.Test.YthkklpegjcnjoaaWNEv
import Derived.Test.YthkklpegjcnjoaaWMore
namespace Go.Proofs.Ythkklpegjcnjoaa.PBidiBases
open Go.RowKit Go.Proofs.YthkklpegjcnjoaaW.PrintWords Go.Proofs.YthkklpegjcnjoaaW.PrintLast Go.Proofs.YthkklpegjcnjoaaW.PrintMore
attribute [local go_sem] max2_int min2_int max_two min_two max_three min_three max_four min_four   -- for this text's walks alone
set_option linter.unusedVariables false
set_option linter.unusedSimpArgs false



def errW : Option Int → Value
  | none => .nilIface
  | some c => .iface 0 (.int .i64 c)
theorem errW_none : errW none = .nilIface := rfl
theorem errW_some (c : Int) : errW (some c) = .iface 0 (.int .i64 c) := rfl

theorem info3 : (Try.prog.info? 3).map (fun i => (i.zero, i.size, i.bytes)) = some (some (.int .i64 0), 1, 8) := by kernel_rfl
-- the values' own types

end Go.Proofs.Ythkklpegjcnjoaa.PBidiBases
