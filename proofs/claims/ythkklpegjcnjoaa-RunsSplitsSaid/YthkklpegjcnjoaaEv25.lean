/- The evaluator run in pieces: definitions, nothing proved here. -/
import Derived.Test.YthkklpegjcnjoaaEv0
namespace Go.Ab
noncomputable section
structure Ent where
 f:FuncId
 args:List Value
 s:St
 v:Value
 s':St
section
variable (fns:FuncId→Option Func) (P:Program) (ro:Nat)
def layer (callF:CallE) (k:Nat):CallE:=fun f args s=>
 match fns f with
 | some fn=>
  match fn.body with
  | some c=>
   bif Nat.ble args.length fn.ntmps then
   T.setsK args 0 .leaf fun tm=>
   match evalC P ro callF fn.ntmps k c ⟨tm,[]⟩ s with
   | some o=>finish P (evalD fns P ro callF k) fn o
   | none=>none
   else none
  | none=>none
 | none=>none
end
end
end Go.Ab
