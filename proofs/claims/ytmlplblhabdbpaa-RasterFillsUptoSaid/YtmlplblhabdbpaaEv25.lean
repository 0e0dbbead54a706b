/- The evaluator run in pieces: definitions, nothing proved here. -/
import Derived.Test.YtmlplblhabdbpaaEv0
namespace Go.Ab

noncomputable section

/-! ### Runs in pieces: calls whose answers are known already are looked up, the state compared whole. -/

def eqO {α : Type} (eqx : α → α → Bool) : Option α → Option α → Bool
  | none, none => true
  | some x, some y => eqx x y
  | _, _ => false

def eqT {α : Type} (eqx : α → α → Bool) (a : T α) : T α → Bool :=
  T.rec (motive := fun _ => T α → Bool)
    (fun t => T.rec (motive := fun _ => Bool) true (fun _ _ _ _ _ => false) t)
    (fun _ v _ hl hr t => T.rec (motive := fun _ => Bool) false
      (fun l' v' r' _ _ =>
        bif eqO eqx v v' then
          bif hl l' then hr r' else false
        else false) t) a

def eqVs : List Value → List Value → Bool := sameV.sameVs 6

def eqBlk (x y : Blk) : Bool :=
  bif Nat.beq x.n y.n then bif Nat.beq x.elem y.elem then bif x.opn == y.opn then bif Nat.beq x.es y.es then bif x.str == y.str then bif x.dead == y.dead then
    bif eqVs x.z y.z then eqT (sameV 6) x.cells y.cells else false
  else false else false else false else false else false else false

def eqMEs : List MapEntry → List MapEntry → Bool
  | [], [] => true
  | a :: l, b :: m => bif Nat.beq a.born b.born then bif sameV 6 a.key b.key then bif sameV 6 a.val b.val then eqMEs l m else false else false else false
  | _, _ => false

def eqNs : List Nat → List Nat → Bool
  | [], [] => true
  | a :: l, b :: m => bif Nat.beq a b then eqNs l m else false
  | _, _ => false

def eqON : Option Nat → Option Nat → Bool
  | none, none => true
  | some a, some b => Nat.beq a b
  | _, _ => false

def eqObj : AObj → AObj → Bool
  | .cells x, .cells y => eqBlk x y
  | .map es c, .map es' c' => bif Nat.beq c c' then eqMEs es es' else false
  | .siter s p, .siter s' p' => bif Nat.beq p p' then beqBytes s.data.toList s'.data.toList else false
  | .miter m a l b, .miter m' a' l' b' => bif eqON m m' then bif Nat.beq a a' then bif Nat.beq b b' then eqNs l l' else false else false else false
  | _, _ => false

def eqSt (s s' : St) : Bool := bif Nat.beq s.next s'.next then eqT eqObj s.heap s'.heap else false

/-- A call whose answer is known. -/
structure Ent where
  f : FuncId
  args : List Value
  s : St
  v : Value
  s' : St

def findEnt : List Ent → CallE
  | [], _, _, _ => none
  | e :: l, f, args, s =>
    bif Nat.beq e.f f then
      bif Nat.beq e.s.next s.next then
        bif eqVs e.args args then
          bif eqSt e.s s then some (.ok e.v e.s') else findEnt l f args s
        else findEnt l f args s
      else findEnt l f args s
    else findEnt l f args s

section
variable (fns : FuncId → Option Func) (P : Program) (ro : Nat)

/-- One layer of the evaluator, over whatever says what calls come to. -/
def layer (callF : CallE) (k : Nat) : CallE := fun f args s =>
    match fns f with
    | some fn =>
      match fn.body with
      | some c =>
        bif Nat.ble args.length fn.ntmps then
        T.setsK args 0 .leaf fun tm =>
        match evalC P ro callF fn.ntmps k c ⟨tm, []⟩ s with
        | some o => finish P (evalD fns P ro callF k) fn o
        | none => none
        else none
      | none => none
    | none => none

def evalFM (M : List Ent) : Nat → CallE
  | 0, _, _, _ => none
  | k + 1, f, args, s =>
    match findEnt M f args s with
    | some r => some r
    | none => layer fns P ro (evalFM M k) k f args s

/-- A call's answer is the one that is named. -/
def checkE (M : List Ent) (k : Nat) (e : Ent) : Bool :=
  match layer fns P ro (evalFM fns P ro M k) k e.f e.args e.s with
  | some (.ok v s') => bif sameV 6 v e.v then eqSt s' e.s' else false
  | _ => false

end
end
end Go.Ab
