/- A plain evaluator for the model's code over a heap whose blocks have names of their own: definitions, nothing proved here. -/
import Derived.Recover
import Derived.Below
import Derived.Orders
namespace Go.Ab

inductive T (α : Type) where
  | leaf
  | node (l : T α) (v : Option α) (r : T α)

/-! The recursors are written out: so the kernel reckons with them at less cost. -/

noncomputable section

def T.get {α : Type} (t : T α) : Nat → Option α :=
  T.rec (motive := fun _ => Nat → Option α) (fun _ => none)
    (fun _ v _ gl gr n => Nat.rec (motive := fun _ => Option α) v (fun m _ => Nat.rec (motive := fun _ => Option α) (gl (Nat.div m 2)) (fun _ _ => gr (Nat.div m 2)) (Nat.mod m 2)) n) t

def T.setK {α R : Type} (f : Nat) : T α → Nat → α → (T α → R) → R :=
  Nat.rec (motive := fun _ => T α → Nat → α → (T α → R) → R) (fun t _ _ k => k t)
    (fun _ ih t n v k =>
      T.rec (motive := fun _ => R)
        (Nat.rec (motive := fun _ => R) (k (.node .leaf (some v) .leaf))
          (fun m _ => Nat.rec (motive := fun _ => R) (ih .leaf (Nat.div m 2) v fun l => k (.node l none .leaf)) (fun _ _ => ih .leaf (Nat.div m 2) v fun r => k (.node .leaf none r)) (Nat.mod m 2)) n)
        (fun l u r _ _ => Nat.rec (motive := fun _ => R) (k (.node l (some v) r))
          (fun m _ => Nat.rec (motive := fun _ => R) (ih l (Nat.div m 2) v fun l => k (.node l u r)) (fun _ _ => ih r (Nat.div m 2) v fun r => k (.node l u r)) (Nat.mod m 2)) n) t) f

structure Blk where
  cells : T Value
  n : Nat
  z : List Value
  elem : TypeId
  opn : Bool
  es : Nat
  str : Bool
  dead : Bool

inductive AObj where
  | cells (b : Blk)
  | map (es : List MapEntry) (clock : Nat)
  | siter (s : ByteArray) (pos : Nat)
  | miter (m : Option Nat) (since : Nat) (seen : List Nat) (stepped : Nat)

structure St where
  heap : T AObj
  next : Nat

structure AAct where
  tm : T Value
  defers : List Deferred

inductive Res where
  | val (v : Value) (s : St)
  | call (f : FuncId) (args : List Value) (s : St)
  | dfr (d : Deferred) (s : St)
  | rcv (s : St)
  | pan (v : Value) (s : St)

/-- Go's model has this in a slot that holds nothing. -/
def und : Value := .tuple #[]

/-- A value of which nothing is known. -/
def unk : Value := .chan (some 0)

/-- The cells of a value; of an unknown one none. -/
def cellsV : Value → Option (List Value)
  | .tuple _ => none
  | .chan _ => none
  | .agg cs => some cs.toList
  | v => some [v]

def nth {α : Type} : List α → Nat → Option α
  | [], _ => none
  | a :: l, n => match n with | 0 => some a | m + 1 => nth l m

/-- A value without addresses. -/
def closedV : Nat → Value → Bool
  | 0, _ => false
  | d + 1, v =>
    match v with
    | .bool _ | .int _ _ | .float _ _ | .complex _ _ _ | .string _ => true
    | .pointer a => a.isNone
    | .slice a _ _ => a.isNone
    | .map r => r.isNone
    | .chan r => r.isNone
    | .func _ f c => f.toList.isEmpty && c.toList.isEmpty
    | .nilFunc | .nilIface => true
    | .iface _ v => closedV d v
    | .agg cs => cs.toList.all (closedV d)
    | .tuple _ => false

def opv (tm : T Value) : Operand → Value
  | .tmp t => match tm.get t with | some v => v | none => und
  | .const v => bif closedV 3 v then v else unk
  | .global _ => unk
  | .func f => .func (.func f) #[] #[]

section
variable (P : Program) (ro : Nat)

def isAg (t : TypeId) : Option Bool :=
  match P.underlying t with
  | some (.struct _) | some (.array _ _) => some true
  | some _ => some false
  | none => none

def szOf (t : TypeId) : Option Nat := match P.info? t with | some i => some i.size | none => none

def cellAt (b : Blk) (o : Nat) : Option Value :=
  bif Nat.blt o b.n then
    match b.cells.get o with
    | some v => some v
    | none => nth b.z (o % b.z.length)
  else none

def liveBlk (s : St) (ν : Nat) : Option Blk :=
  match s.heap.get ν with
  | some (.cells b) => bif b.dead then none else some b
  | _ => none

def ldCell (s : St) (ν o : Nat) : Option Value :=
  match liveBlk s ν with
  | some b => cellAt b o
  | none => none

def cellsFrom (b : Blk) : Nat → Nat → Option (List Value)
  | _, 0 => some []
  | o, n + 1 =>
    match cellAt b o with
    | some v => match cellsFrom b (o + 1) n with | some l => some (v :: l) | none => none
    | none => none

def ldCells (s : St) (ν o n : Nat) : Option (List Value) :=
  match n with
  | 0 => some []
  | _ + 1 =>
    match liveBlk s ν with
    | some b => cellsFrom b o n
    | none => none

def setObjK {R : Type} (s : St) (ν : Nat) (o : AObj) (k : St → R) : R :=
  T.setK (ν + 1) s.heap ν o fun h => k ⟨h, s.next⟩

def newObjK {R : Type} (s : St) (o : AObj) (k : Nat → St → R) : R :=
  match s.next with
  | 0 => T.setK 1 s.heap 0 o fun h => k 0 ⟨h, 1⟩
  | m + 1 => T.setK (m + 2) s.heap (m + 1) o fun h => k (m + 1) ⟨h, m + 2⟩

def T.setsK {R : Type} : List Value → Nat → T Value → (T Value → R) → R
  | [], _, t, k => k t
  | v :: l, i, t, k => T.setK (i + 1) t i v fun t' => T.setsK l (i + 1) t' k

/-- May this stand in one cell? -/
def oneC : Value → Bool
  | .agg _ | .tuple _ | .chan _ => false
  | _ => true

def stCells (s : St) (ν o : Nat) (vs : List Value) : Option St :=
  match vs with
  | [] => some s
  | _ :: _ =>
    match liveBlk s ν with
    | some b =>
      bif Nat.ble ro ν && Nat.ble (o + vs.length) b.n && vs.all oneC then
        T.setsK vs o b.cells fun c => setObjK s ν (.cells { b with cells := c }) some
      else none
    | none => none

def newRow (s : St) (elem : TypeId) (opn : Bool) (es : Nat) (vs : List Value) (k : Nat → St → Option Res) : Option Res :=
  T.setsK vs 0 .leaf fun c => newObjK s (.cells { cells := c, n := vs.length, z := [], elem, opn, es, str := false, dead := false }) k

def partOf (t : TypeId) (cs : List Value) (off : Nat) : Option Value :=
  match isAg P t with
  | some true => match szOf P t with
    | some n => some (.agg ((cs.drop off).take n).toArray)
    | none => none
  | some false => nth cs off
  | none => none

def ldVar (s : St) (t : TypeId) (a : Addr) : Option Value :=
  match a.spot with
  | some _ => none
  | none =>
    match isAg P t with
    | some true => match szOf P t with
      | some n => match ldCells s a.block a.off n with | some l => some (.agg l.toArray) | none => none
      | none => none
    | some false => ldCell s a.block a.off
    | none => none

def stVar (s : St) (t : TypeId) (a : Addr) (v : Value) : Option St :=
  match a.spot with
  | some _ => none
  | none =>
    match szOf P t with
    | some n =>
      match cellsV v with
      | none => none
      | some l => bif Nat.beq l.length n then stCells ro s a.block a.off l else none
    | none => none

def zeroOf (t : TypeId) : Option Value :=
  match P.info? t with
  | some i => match i.zero with
    | some z => bif closedV 3 z then some z else none
    | none => none
  | none => none

/-- The cells of a type's zero value. -/
def zeroC (t : TypeId) : Option (List Value) :=
  match zeroOf P t with
  | some z => cellsV z
  | none => none

def wrapK (k : IntKind) (n : Int) : Int :=
  match k, n with
  | .i64, .ofNat m => bif Nat.blt m 9223372036854775808 then .ofNat m else IntKind.wrap .i64 n
  | .i64, .negSucc m => bif Nat.blt m 9223372036854775808 then .negSucc m else IntKind.wrap .i64 n
  | k, n => k.wrap n

def ltI : Int → Int → Bool
  | .ofNat a, .ofNat b => Nat.blt a b
  | .negSucc _, .ofNat _ => true
  | .ofNat _, .negSucc _ => false
  | .negSucc a, .negSucc b => Nat.blt b a

def eqI : Int → Int → Bool
  | .ofNat a, .ofNat b => Nat.beq a b
  | .negSucc a, .negSucc b => Nat.beq a b
  | _, _ => false

def intBin (op : BinOp) (k : IntKind) (x y : Int) : Option Value :=
  match op with
  | .add => some (.int k (wrapK k (x + y)))
  | .sub => some (.int k (wrapK k (x - y)))
  | .mul => some (.int k (wrapK k (x * y)))
  | .quo => bif eqI y 0 then none else some (.int k (wrapK k (x.tdiv y)))
  | .rem => bif eqI y 0 then none else some (.int k (x.tmod y))
  | .and => some (.int k (k.wrap ((BitVec.ofInt k.bits x &&& BitVec.ofInt k.bits y).toNat)))
  | .or => some (.int k (k.wrap ((BitVec.ofInt k.bits x ||| BitVec.ofInt k.bits y).toNat)))
  | .xor => some (.int k (k.wrap ((BitVec.ofInt k.bits x ^^^ BitVec.ofInt k.bits y).toNat)))
  | .andNot => some (.int k (k.wrap ((BitVec.ofInt k.bits x &&& ~~~ (BitVec.ofInt k.bits y)).toNat)))
  | .eql => some (.bool (eqI x y))
  | .neq => some (.bool (!eqI x y))
  | .lss => some (.bool (ltI x y))
  | .leq => some (.bool (!ltI y x))
  | .gtr => some (.bool (ltI y x))
  | .geq => some (.bool (!ltI x y))
  | _ => none

def shiftBin (op : BinOp) (k : IntKind) (x y : Int) : Option Value :=
  match y with
  | .negSucc _ => none
  | .ofNat m =>
    let n := min m k.bits
    match op with
    | .shl => some (.int k (wrapK k (x * .ofNat (2 ^ n))))
    | .shr => some (.int k (x.fdiv (.ofNat (2 ^ n))))
    | _ => none

def beqBytes : List UInt8 → List UInt8 → Bool
  | [], [] => true
  | a :: x, b :: y => bif Nat.beq a.toNat b.toNat then beqBytes x y else false
  | _, _ => false

def ltBytes : List UInt8 → List UInt8 → Bool
  | _, [] => false
  | [], _ :: _ => true
  | a :: x, b :: y => bif Nat.blt a.toNat b.toNat then true else bif Nat.beq a.toNat b.toNat then ltBytes x y else false

def strBin (op : BinOp) (x y : ByteArray) : Option Value :=
  match op with
  | .add =>
    bif Nat.ble (x.data.toList.length + y.data.toList.length) 1000000000 then some (.string ⟨(x.data.toList ++ y.data.toList).toArray⟩) else none
  | .eql => some (.bool (beqBytes x.data.toList y.data.toList))
  | .neq => some (.bool (!beqBytes x.data.toList y.data.toList))
  | .lss => some (.bool (ltBytes x.data.toList y.data.toList))
  | .leq => some (.bool (!ltBytes y.data.toList x.data.toList))
  | .gtr => some (.bool (ltBytes y.data.toList x.data.toList))
  | .geq => some (.bool (!ltBytes x.data.toList y.data.toList))
  | _ => none

/-- Equality of values of a comparable type, the heap asked for pointers' blocks. -/
def eqAddr (s : St) (a b : Addr) : Option Bool :=
  match a.spot, b.spot with
  | none, none =>
    bif Nat.beq a.block b.block then some (Nat.beq a.off b.off) else
    match liveBlk s a.block, liveBlk s b.block with
    | some x, some y => bif x.str || y.str || (bif Nat.ble ro a.block then false else !(Nat.ble ro b.block)) then none else some false
    | _, _ => none
  | _, _ => none

def eqFs (eq : TypeId → Value → Value → Option Bool) (xs ys : List Value) : List Field → Option Bool
  | [] => some true
  | f :: fs =>
    if f.name ≠ "_" then
      match partOf P f.type xs f.offset, partOf P f.type ys f.offset with
      | some a, some b => match eq f.type a b with
        | some true => eqFs eq xs ys fs
        | some false => some false
        | none => none
      | _, _ => none
    else eqFs eq xs ys fs

def eqEs (eq : Value → Value → Option Bool) (elem : TypeId) (n : Nat) (xs ys : List Value) : Nat → Nat → Option Bool
  | 0, _ => some true
  | c + 1, i =>
    match partOf P elem xs (i * n), partOf P elem ys (i * n) with
    | some a, some b => match eq a b with
      | some true => eqEs eq elem n xs ys c (i + 1)
      | some false => some false
      | none => none
    | _, _ => none

def eqV (s : St) : Nat → TypeId → Value → Value → Option Bool
  | 0, _, _, _ => none
  | d + 1, t, x, y =>
    match P.underlying t with
    | none => none
    | some u =>
    match u, x, y with
    | .bool, .bool a, .bool b => some (a == b)
    | .int _, .int k a, .int k' b => if k = k' then some (eqI a b) else none
    | .string, .string a, .string b => some (beqBytes a.data.toList b.data.toList)
    | .pointer _, .pointer none, .pointer none => some true
    | .pointer _, .pointer none, .pointer (some _) => some false
    | .pointer _, .pointer (some _), .pointer none => some false
    | .pointer e, .pointer (some a), .pointer (some b) =>
      match szOf P e with
      | some (_ + 1) => eqAddr ro s a b
      | _ => none
    | .interface _, .nilIface, .nilIface => some true
    | .interface _, .nilIface, .iface _ _ => some false
    | .interface _, .iface _ _, .nilIface => some false
    | .interface _, .iface tx vx, .iface ty vy =>
      bif Nat.beq tx ty then
        match P.info? tx with
        | some i => bif i.comparable then eqV s d tx vx vy else none
        | none => none
      else some false
    | .struct fields, .agg xs, .agg ys => bif P.stoodInHeld t then none else eqFs P (eqV s d) xs.toList ys.toList fields.toList
    | .array len elem, .agg xs, .agg ys => match szOf P elem with
      | some n => eqEs P (eqV s d elem) elem n xs.toList ys.toList len 0
      | none => none
    | .slice _, .slice none _ _, .slice b _ _ => some b.isNone
    | .slice _, .slice (some _) _ _, .slice none _ _ => some false
    | .map _ _, .map none, .map b => some b.isNone
    | .map _ _, .map (some _), .map none => some false
    | .func _ _ _, .nilFunc, .nilFunc => some true
    | .func _ _ _, .nilFunc, .func _ _ _ => some false
    | .func _ _ _, .func _ _ _, .nilFunc => some false
    | _, _, _ => none

def isConstO : Operand → Bool | .const _ => true | _ => false

def guardOk (t : TypeId) (x y : Operand) (a b : Value) : Bool :=
  match a, b with
  | .nilIface, .nilIface => isConstO x || isConstO y
  | .agg _, .agg _ => !(P.eqGuardType P.depth t)
  | _, _ => true

/-- Values that are held equal by way of their type. -/
def eqShape : Value → Bool
  | .bool _ | .pointer _ | .slice _ _ _ | .map _ | .func _ _ _ | .nilFunc | .iface _ _ | .nilIface | .agg _ => true
  | _ => false

def bin (s : St) (op : BinOp) (t : TypeId) (x y : Operand) (a b : Value) : Option Value :=
  match op, a, b with
  | .shl, .int k m, .int _ n => shiftBin .shl k m n
  | .shr, .int k m, .int _ n => shiftBin .shr k m n
  | op, .int k m, .int k' n => if k = k' then intBin op k m n else none
  | op, .string m, .string n => strBin op m n
  | .eql, a, b => bif eqShape a && eqShape b && guardOk P t x y a b then (match eqV P ro s 100 t a b with | some r => some (.bool r) | none => none) else none
  | .neq, a, b => bif eqShape a && eqShape b && guardOk P t x y a b then (match eqV P ro s 100 t a b with | some r => some (.bool (!r)) | none => none) else none
  | _, _, _ => none

def un (op : UnOp) (x : Value) : Option Value :=
  match op, x with
  | .neg, .int k n => some (.int k (wrapK k (0 - n)))
  | .xor, .int k n => intBin .xor k (if k.signed then -1 else k.max) n
  | .not, .bool b => some (.bool !b)
  | _, _ => none

def fillL (place : Nat → Option (Nat × Nat)) (cells : List Value) : List (Nat × Value) → Option (List Value)
  | [] => some cells
  | (i, v) :: rest =>
    match place i with
    | none => none
    | some (off, size) =>
      match cellsV v with
      | none => none
      | some vs =>
      bif Nat.beq vs.length size && Nat.ble (off + size) cells.length then
        fillL place (cells.take off ++ (vs ++ cells.drop (off + size))) rest
      else none

def repeatL (z : List Value) : Nat → List Value
  | 0 => []
  | n + 1 => z ++ repeatL z n

def asNat : Value → Option Nat
  | .int _ (.ofNat n) => some n
  | _ => none

def bound1 (x : Value) (y : Nat) : Option Nat :=
  match x with
  | .int _ (.ofNat n) => bif Nat.ble n y then some n else none
  | _ => none

def boundOr (x : Option Value) (d y : Nat) : Option Nat :=
  match x with
  | none => some d
  | some v => bound1 v y

def bounds (len cap : Nat) (lo hi mx : Option Value) : Option (Nat × Nat × Nat) :=
  match boundOr mx cap cap with
  | none => none
  | some m =>
    match hi, mx with
    | none, some _ => none
    | hi, _ =>
      match boundOr hi len m with
      | none => none
      | some h => match boundOr lo 0 h with
        | none => none
        | some l => bif Nat.ble h m then some (l, h, m) else none

def addA (a : Addr) (n : Nat) : Addr := match n with | 0 => a | _ + 1 => { a with off := a.off + n, spot := none }

/-- Is the slice value's capacity that of the model (true), or may the model's be greater? -/
def exactCap (b : Blk) (o cap : Nat) : Bool := bif b.opn then !Nat.beq (o + cap * b.es) b.n else true

def sliceOf (s : St) (t : TypeId) (x : Value) (lo hi mx : Option Value) : Option Value :=
  match P.underlying t, x with
  | some .string, .string b =>
    match mx with
    | some _ => none
    | none =>
    match bounds b.data.toList.length b.data.toList.length lo hi none with
    | some (i, j, _) => some (.string ⟨((b.data.toList.drop i).take (j - i)).toArray⟩)
    | none => none
  | some (.slice elem), .slice none len cap =>
    match bounds len cap lo hi mx, szOf P elem with
    | some (i, j, m), some _ => some (.slice none (j - i) (m - i))
    | _, _ => none
  | some (.slice elem), .slice (some a) len cap =>
    bif a.spot.isSome then none else
    match bounds len cap lo hi mx, szOf P elem, liveBlk s a.block with
    | some (i, j, m), some size, some b =>
      bif exactCap b a.off cap then some (.slice (some (bif Nat.beq m i then a else addA a (i * size))) (j - i) (m - i))
      else bif Nat.beq b.es size then
        match mx with
        | none => some (.slice (some (addA a (i * size))) (j - i) (m - i))
        | some _ => some (.slice (some (bif Nat.beq m i then a else addA a (i * size))) (j - i) (m - i))
      else none
    | _, _, _ => none
  | some (.pointer arr), .pointer (some a) =>
    match P.underlying arr with
    | some (.array n elem) =>
      match bounds n n lo hi mx, szOf P elem with
      | some (i, j, m), some size => some (.slice (some (bif Nat.beq m i then a else addA a (i * size))) (j - i) (m - i))
      | _, _ => none
    | _ => none
  | some (.array n elem), .pointer (some a) =>
    match bounds n n lo hi mx, szOf P elem with
    | some (i, j, m), some size => some (.slice (some (bif Nat.beq m i then a else addA a (i * size))) (j - i) (m - i))
    | _, _ => none
  | _, _ => none

def lenOfV : Value → Option Nat
  | .slice _ n _ => some n
  | .string s => some s.data.toList.length
  | _ => none

def firstL (s : St) (size n : Nat) : Value → Option (List Value)
  | .slice (some a) _ _ => match a.spot with | none => ldCells s a.block a.off (n * size) | some _ => (match n with | 0 => some [] | _ + 1 => none)
  | .slice none _ _ => some []
  | .string b => some ((b.data.toList.take n).map fun c => .int .u8 (.ofNat c.toNat))
  | _ => none

def growOf (s : St) (elem : TypeId) (size sLen need : Nat) (a : Addr) (blk : Blk) (new : List Value) : Option Res :=
  match a.off with
  | 0 =>
    bif Nat.ble (sLen * size) blk.n then
      T.setsK new (sLen * size) blk.cells fun c =>
        newObjK s (.cells { cells := c, n := need * size, z := blk.z, elem := elem, opn := true, es := size, str := blk.str, dead := false })
          fun ν s' => some (.val (.slice (some ⟨ν, 0, none⟩) need need) s')
    else none
  | _ + 1 =>
    match cellsFrom blk a.off (sLen * size) with
    | none => none
    | some old =>
      T.setsK (old ++ new) 0 .leaf fun c =>
        newObjK s (.cells { cells := c, n := need * size, z := [], elem := elem, opn := true, es := size, str := blk.str, dead := false })
          fun ν s' => some (.val (.slice (some ⟨ν, 0, none⟩) need need) s')

def appendOf (s : St) (elem : TypeId) (b : Value) (x : Value) : Option Res :=
  match P.info? elem, b with
  | some ei, .slice base sLen sCap =>
    let size := ei.size
    match lenOfV x with
    | none => none
    | some n =>
    match firstL s size n x with
    | none => none
    | some new =>
    let need := sLen + n
    bif Nat.ble need sCap then
      match base with
      | some a =>
        match a.spot with
        | some _ => none
        | none => match stCells ro s a.block (a.off + sLen * size) new with
          | some s' => some (.val (.slice base need sCap) s')
          | none => none
      | none => some (.val (.slice base need sCap) s)
    else
      bif Nat.blt 140737488355328 (need * ei.bytes) || Nat.blt 9223372036854775807 need || Nat.blt 16384 ei.bytes || !new.all oneC || !Nat.beq new.length (n * size) then none else
      match zeroC P elem with
      | none => none
      | some z =>
      bif !Nat.beq z.length size then none else
      match base with
      | none => bif Nat.beq sLen 0 then newRow s elem true size new fun ν s' => some (.val (.slice (some ⟨ν, 0, none⟩) need need) s') else none
      | some a =>
        match a.spot with
        | some _ => none
        | none =>
        match liveBlk s a.block with
        | none => none
        | some blk =>
          bif exactCap blk a.off sCap then growOf s elem size sLen need a blk new
          else
            bif Nat.ble ro a.block && Nat.beq blk.es size then
              setObjK s a.block (.cells { blk with dead := true }) fun s => growOf s elem size sLen need a blk new
            else none
  | _, _ => none

def sameKey (kind : TypeDesc) (a b : Value) : Option Bool :=
  match kind, a, b with
  | .int _, .int k a, .int k' b => if k = k' then some (eqI a b) else none
  | .string, .string a, .string b => some (beqBytes a.data.toList b.data.toList)
  | .bool, .bool a, .bool b => some (a == b)
  | _, _, _ => none

def findK (kind : TypeDesc) (k : Value) : List MapEntry → Nat → Option (Option (Nat × Value))
  | [], _ => some none
  | e :: es, i =>
    match sameKey kind k e.key with
    | some true => some (some (i, e.val))
    | some false => findK kind k es (i + 1)
    | none => none

def mapOf (s : St) (ν : Nat) : Option (List MapEntry × Nat) :=
  match s.heap.get ν with
  | some (.map es c) => some (es, c)
  | _ => none

def basicKey : TypeDesc → Bool
  | .int _ | .string | .bool => true
  | _ => false

def lookupOf (s : St) (t : TypeId) (x k : Value) (ok : Bool) : Option Value :=
  match P.underlying t with
  | some (.map key elem) =>
    match P.underlying key with
    | none => none
    | some kd =>
    bif basicKey kd then
      let es : Option (List MapEntry) := match x with
        | .map none => some []
        | .map (some r) => match mapOf s r with | some (es, _) => some es | none => none
        | _ => none
      match es with
      | none => none
      | some es =>
        match findK kd k es 0 with
        | none => none
        | some (some (_, v)) => some (bif ok then .tuple #[v, .bool true] else v)
        | some none => match zeroOf P elem with
          | some z => some (bif ok then .tuple #[z, .bool false] else z)
          | none => none
    else none
  | _ => none

def setAt {α : Type} (f : α → α) : List α → Nat → List α
  | [], _ => []
  | a :: l, n => match n with | 0 => f a :: l | m + 1 => a :: setAt f l m

def eraseAt {α : Type} : List α → Nat → List α
  | [], _ => []
  | a :: l, n => match n with | 0 => l | m + 1 => a :: eraseAt l m

def mapUpd (s : St) (t : TypeId) (m k v : Value) : Option St :=
  match P.underlying t, m with
  | some (.map key _), .map (some r) =>
    match P.underlying key, mapOf s r with
    | some kd, some (es, c) =>
      bif basicKey kd && Nat.ble ro r then
        match findK kd k es 0 with
        | none => none
        | some (some (i, _)) => setObjK s r (.map (setAt (fun e => { e with key := k, val := v }) es i) c) some
        | some none => setObjK s r (.map (es ++ [{ key := k, val := v, born := c }]) (c + 1)) some
      else none
    | _, _ => none
  | _, _ => none

def mapDel (s : St) (t : TypeId) (m k : Value) : Option St :=
  match P.underlying t, m with
  | some (.map key _), .map (some r) =>
    match P.underlying key, mapOf s r with
    | some kd, some (es, c) =>
      bif basicKey kd && Nat.ble ro r then
        match findK kd k es 0 with
        | none => none
        | some (some (i, _)) => setObjK s r (.map (eraseAt es i) c) some
        | some none => some s
      else none
    | _, _ => none
  | _, _ => none

def memNat (l : List Nat) (n : Nat) : Bool := match l with | [] => false | a :: r => bif Nat.beq a n then true else memNat r n

def nextOf (s : St) (it : Value) (isString : Bool) : Option Res :=
  match it with
  | .pointer (some ⟨r, 0, none⟩) =>
    bif Nat.ble ro r then
    match s.heap.get r, isString with
    | some (.siter b pos), true =>
      bif Nat.blt pos b.data.toList.length then
        match Utf8.decode b pos with
        | (c, w) => setObjK s r (.siter b (pos + w)) fun s => some (.val (.tuple #[.bool true, .int .i64 (.ofNat pos), .int .i32 (.ofNat c)]) s)
      else some (.val (.tuple #[.bool false]) s)
    | some (.miter none _ _ _), false => some (.val (.tuple #[.bool false]) s)
    | some (.miter (some m) since seen last), false =>
      match mapOf s m with
      | none => none
      | some (es, clock) =>
        let left := es.filter fun e => !memNat seen e.born
        bif (!seen.isEmpty && !es.isEmpty && es.all fun e => Nat.ble last e.born) then none else
        match left with
        | [] => some (.val (.tuple #[.bool false]) s)
        | [e] => bif Nat.blt e.born since then
            setObjK s r (.miter (some m) since (seen ++ [e.born]) clock) fun s => some (.val (.tuple #[.bool true, e.key, e.val]) s)
          else none
        | _ => none
    | _, _ => none
    else none
  | _ => none

def rangeOf (s : St) (t : TypeId) (x : Value) : Option Res :=
  match P.underlying t, x with
  | some .string, .string b => newObjK s (.siter b 0) fun ν s => some (.val (.pointer (some ⟨ν, 0, none⟩)) s)
  | some (.map _ _), .map none => newObjK s (.miter none 0 [] 0) fun ν s => some (.val (.pointer (some ⟨ν, 0, none⟩)) s)
  | some (.map _ _), .map (some m) =>
    match mapOf s m with
    | some (_, c) => newObjK s (.miter (some m) c [] c) fun ν s => some (.val (.pointer (some ⟨ν, 0, none⟩)) s)
    | none => none
  | _, _ => none

def lastOf : List Nat → Option Nat
  | [] => none
  | [a] => some a
  | _ :: b :: l => lastOf (b :: l)

def entryOf (s : St) (it : Value) : Option Value :=
  match it with
  | .pointer (some ⟨r, 0, none⟩) =>
    match s.heap.get r with
    | some (.miter (some m) _ seen stepped) =>
      match lastOf seen, mapOf s m with
      | some stamp, some (es, clock) =>
        bif Nat.beq clock stepped then
          match es.find? fun e => Nat.beq e.born stamp with
          | some e => some (.tuple #[e.key, e.val])
          | none => none
        else none
      | _, _ => none
    | _ => none
  | _ => none

def bytesOfCells : List Value → Option (List UInt8)
  | [] => some []
  | .int .u8 (.ofNat n) :: l => match bytesOfCells l with | some r => some (UInt8.ofNat n :: r) | none => none
  | _ :: _ => none

def convOf (s : St) (src dst : TypeId) (x : Value) : Option Res :=
  match P.underlying src, P.underlying dst, x with
  | some _, some (.int k), .int _ n => some (.val (.int k (wrapK k n)) s)
  | some _, some .string, .int _ n => some (.val (.string (Utf8.encode n)) s)
  | some _, some .string, .string b => some (.val (.string b) s)
  | some _, some (.slice e), .string b =>
    match P.underlying e with
    | some (.int .u8) =>
      let vs : List Value := b.data.toList.map fun c => .int .u8 (.ofNat c.toNat)
      T.setsK vs 0 .leaf fun c => newObjK s (.cells { cells := c, n := vs.length, z := [], elem := e, opn := true, es := 1, str := true, dead := false })
        fun ν s => some (.val (.slice (some ⟨ν, 0, none⟩) vs.length vs.length) s)
    | _ => none
  | some (.slice e), some .string, .slice base len _ =>
    match P.underlying e with
    | some (.int .u8) =>
      match base with
      | none => some (.val (.string .empty) s)
      | some a => match a.spot with
        | some _ => none
        | none => match ldCells s a.block a.off len with
          | some l => match bytesOfCells l with | some b => some (.val (.string ⟨b.toArray⟩) s) | none => none
          | none => none
    | _ => none
  | some (.slice _), some (.slice e), .slice (some a) len cap =>
    bif a.spot.isSome then none else bif Nat.beq src dst then
      match P.underlying e with
      | some (.int .u8) =>
        match liveBlk s a.block with
        | some b => bif Nat.ble ro a.block then setObjK s a.block (.cells { b with str := true }) fun s => some (.val (.slice (some a) len cap) s) else none
        | none => none
      | _ => none
    else none
  | _, _, _ => none

def lenB (s : St) (t : TypeId) (x : Value) : Option Value :=
  match P.underlying t, x with
  | some .string, .string b => some (.int .i64 (.ofNat b.data.toList.length))
  | some (.array n _), _ => some (.int .i64 (.ofNat n))
  | some (.pointer arr), _ => match P.underlying arr with | some (.array n _) => some (.int .i64 (.ofNat n)) | _ => none
  | some (.slice _), .slice _ n _ => some (.int .i64 (.ofNat n))
  | some (.map _ _), .map none => some (.int .i64 0)
  | some (.map _ _), .map (some r) => match mapOf s r with | some (es, _) => some (.int .i64 (.ofNat es.length)) | none => none
  | _, _ => none

def max2 (mx : Bool) : Value → Value → Option Value
  | .int k x, .int _ y => some (.int k (bif mx then (bif ltI x y then y else x) else (bif ltI y x then y else x)))
  | _, _ => none

def maxOf (mx : Bool) : Value → List Value → Option Value
  | x, [] => some x
  | x, y :: l => match max2 mx x y with | some z => maxOf mx z l | none => none

def builtinOf (s : St) (b : Builtin) (argTypes : List TypeId) (args : List Value) : Option Res :=
  match b, argTypes, args with
  | .len, t :: _, x :: _ => match lenB P s t x with | some v => some (.val v s) | none => none
  | .append, t :: u :: _, x :: y :: _ =>
    match P.underlying t, P.underlying u with
    | some (.slice _), some (.int _) => none
    | some (.slice e), some _ => appendOf P ro s e x y
    | _, _ => none
  | .append, [t], x :: y :: _ =>
    match P.underlying t with
    | some (.slice e) => appendOf P ro s e x y
    | _ => none
  | .copy, t :: _, .slice base dLen _ :: x :: _ =>
    match P.underlying t with
    | some (.slice e) =>
      match szOf P e, lenOfV x with
      | some size, some m =>
        let n := Nat.min m dLen
        match firstL s size n x with
        | some l =>
          match base with
          | none => some (.val (.int .i64 (.ofNat n)) s)
          | some a => match a.spot with
            | some _ => none
            | none => match stCells ro s a.block a.off l with
              | some s' => some (.val (.int .i64 (.ofNat n)) s')
              | none => none
        | none => none
      | _, _ => none
    | _ => none
  | .clear, t :: _, x :: _ =>
    match P.underlying t, x with
    | some _, .map none => some (.val (.tuple #[]) s)
    | some _, .slice none _ _ => some (.val (.tuple #[]) s)
    | some _, .slice _ 0 _ => some (.val (.tuple #[]) s)
    | some _, .map (some r) => match mapOf s r with
      | some (_, c) => bif Nat.ble ro r then setObjK s r (.map [] c) fun s => some (.val (.tuple #[]) s) else none
      | none => none
    | some (.slice e), .slice (some a) n _ =>
      match a.spot, zeroC P e with
      | none, some z => match stCells ro s a.block a.off (repeatL z n) with
        | some s' => some (.val (.tuple #[]) s')
        | none => none
      | _, _ => none
    | _, _ => none
  | .delete, t :: _, m :: k :: _ => match mapDel P ro s t m k with | some s => some (.val (.tuple #[]) s) | none => none
  | .max, _, x :: l => match maxOf true x l with | some v => some (.val v s) | none => none
  | .min, _, x :: l => match maxOf false x l with | some v => some (.val v s) | none => none
  | .recover, _, _ => some (.rcv s)
  | .panic, _, x :: _ => match x with | .iface _ _ => some (.pan x s) | _ => none
  | _, _, _ => none

def callTarget (f : Value) (args : List Value) : Option (FuncId × List Value) :=
  match f with
  | .func (.func g) first captured => some (g, first.toList ++ (args ++ captured.toList))
  | _ => none

def structPlaces : List Field → Option (List (Nat × Nat))
  | [] => some []
  | f :: l => match szOf P f.type, structPlaces l with
    | some n, some r => some ((f.offset, n) :: r)
    | _, _ => none

def evalOp (tm : T Value) (o : Op) (s : St) : Option Res :=
  match o with
  | .move x => some (.val (opv tm x) s)
  | .assign x => some (.val (opv tm x) s)
  | .pick c a b => match opv tm c with
    | .bool t => some (.val (bif t then opv tm a else opv tm b) s)
    | _ => none
  | .alloc elem => match zeroC P elem with
    | some z => newRow s elem false 0 z fun ν s => some (.val (.pointer (some ⟨ν, 0, none⟩)) s)
    | none => none
  | .box elem x => match cellsV (opv tm x) with
    | some l => newRow s elem false 0 l fun ν s => some (.val (.pointer (some ⟨ν, 0, none⟩)) s)
    | none => none
  | .build t parts =>
    match zeroC P t, P.underlying t with
    | some z, some (.struct fs) =>
      match structPlaces P fs.toList with
      | some pl => match fillL (nth pl) z (parts.toList.map fun (i, x) => (i, opv tm x)) with
        | some l => some (.val (.agg l.toArray) s)
        | none => none
      | none => none
    | some z, some (.array _ elem) =>
      match szOf P elem with
      | some n => match fillL (fun i => some (i * n, n)) z (parts.toList.map fun (i, x) => (i, opv tm x)) with
        | some l => some (.val (.agg l.toArray) s)
        | none => none
      | none => none
    | _, _ => none
  | .buildSlice t len parts =>
    match P.underlying t with
    | some (.slice elem) =>
      match szOf P elem, zeroC P elem with
      | some n, some z =>
        bif Nat.ble (len * n) 16777216 && Nat.beq z.length n then
          match fillL (fun i => some (i * n, n)) (repeatL z len) (parts.toList.map fun (i, x) => (i, opv tm x)) with
          | some l => newRow s elem false 0 l fun ν s => some (.val (.slice (some ⟨ν, 0, none⟩) len len) s)
          | none => none
        else none
      | _, _ => none
    | _ => none
  | .load t a => match opv tm a with
    | .pointer (some a) => match ldVar P s t a with | some v => some (.val v s) | none => none
    | _ => none
  | .store t a x => match opv tm a with
    | .pointer (some a) => match stVar P ro s t a (opv tm x) with | some s => some (.val und s) | none => none
    | _ => none
  | .nilCheck x => match opv tm x with
    | .pointer (some a) => some (.val (.pointer (some a)) s)
    | .func (.func f) a b => some (.val (.func (.func f) a b) s)
    | .iface t v => some (.val (.iface t v) s)
    | _ => none
  | .binOp op t x y _ => match bin P ro s op t x y (opv tm x) (opv tm y) with | some v => some (.val v s) | none => none
  | .unOp op _ x => match un op (opv tm x) with | some v => some (.val v s) | none => none
  | .convert src dst x => convOf P ro s src dst (opv tm x)
  | .makeInterface t x => match P.underlying t with
    | some (.interface _) => none
    | some _ => some (.val (.iface t (opv tm x)) s)
    | none => none
  | .makeFunc fn first captured => some (.val (.func fn (first.toList.map (opv tm)).toArray (captured.toList.map (opv tm)).toArray) s)
  | .makeMap t r =>
    match r with
    | none => newObjK s (.map [] 0) fun ν s => some (.val (.map (some ν)) s)
    | some x => match P.underlying t, opv tm x with
      | some (.map _ _), .int _ _ => newObjK s (.map [] 0) fun ν s => some (.val (.map (some ν)) s)
      | _, _ => none
  | .makeSlice t l c =>
    match P.underlying t, opv tm l, opv tm c with
    | some (.slice elem), .int _ (.ofNat l), .int _ (.ofNat c) =>
      match szOf P elem, zeroC P elem, P.info? elem with
      | some n, some z, some i =>
        bif Nat.ble l c && Nat.ble c 9223372036854775807 && Nat.ble (i.bytes * c) 281474976710656 && Nat.beq z.length n then
          newObjK s (.cells { cells := .leaf, n := c * n, z := z, elem, opn := false, es := 0, str := false, dead := false })
            fun ν s => some (.val (.slice (some ⟨ν, 0, none⟩) l c) s)
        else none
      | _, _, _ => none
    | _, _, _ => none
  | .slice t x lo hi mx => match sliceOf P s t (opv tm x) (lo.map (opv tm)) (hi.map (opv tm)) (mx.map (opv tm)) with
    | some v => some (.val v s) | none => none
  | .fieldAddr t x f =>
    match P.underlying t, opv tm x with
    | some (.struct fs), .pointer (some a) =>
      match nth fs.toList f with
      | some fd => match szOf P fd.type with
        | some (_ + 1) => some (.val (.pointer (some (addA a fd.offset))) s)
        | _ => none
      | none => none
    | _, _ => none
  | .field t x f =>
    match P.underlying t, opv tm x with
    | some (.struct fs), .agg cs =>
      match nth fs.toList f with
      | some fd => match partOf P fd.type cs.toList fd.offset with | some v => some (.val v s) | none => none
      | none => none
    | _, _ => none
  | .indexAddr t x ix =>
    match P.underlying t, opv tm x, opv tm ix with
    | some (.array len elem), .pointer (some a), .int _ (.ofNat i) =>
      match szOf P elem with
      | some n => bif Nat.blt i len then some (.val (.pointer (some (addA a (i * n)))) s) else none
      | none => none
    | some (.slice elem), .slice (some a) len _, .int _ (.ofNat i) =>
      match szOf P elem with
      | some n => bif Nat.blt i len then some (.val (.pointer (some (addA a (i * n)))) s) else none
      | none => none
    | _, _, _ => none
  | .index t x ix =>
    match P.underlying t, opv tm x, opv tm ix with
    | some (.array len elem), .agg cs, .int _ (.ofNat i) =>
      bif Nat.blt i len then
        match szOf P elem with
        | some n => match partOf P elem cs.toList (i * n) with | some v => some (.val v s) | none => none
        | none => none
      else none
    | some .string, .string b, .int _ (.ofNat i) =>
      match nth b.data.toList i with
      | some c => some (.val (.int .u8 (.ofNat c.toNat)) s)
      | none => none
    | _, _, _ => none
  | .lookup t x k ok => match lookupOf P s t (opv tm x) (opv tm k) ok with | some v => some (.val v s) | none => none
  | .mapUpdate t m k x => match mapUpd P ro s t (opv tm m) (opv tm k) (opv tm x) with | some s => some (.val und s) | none => none
  | .insert t m k x => match mapUpd P ro s t (opv tm m) (opv tm k) (opv tm x) with | some s => some (.val und s) | none => none
  | .range t x => rangeOf P s t (opv tm x)
  | .next it str => nextOf ro s (opv tm it) str
  | .entry it => match entryOf s (opv tm it) with | some v => some (.val v s) | none => none
  | .typeAssert x _ t ok =>
    match P.underlying t, opv tm x with
    | some (.interface _), _ => none
    | some _, .iface u v =>
      bif Nat.beq u t then some (.val (bif ok then .tuple #[v, .bool true] else v) s)
      else bif ok then (match zeroOf P t with | some z => some (.val (.tuple #[z, .bool false]) s) | none => none) else none
    | some _, .nilIface => bif ok then (match zeroOf P t with | some z => some (.val (.tuple #[z, .bool false]) s) | none => none) else none
    | _, _ => none
  | .extract x i => match opv tm x with
    | .tuple vs => match nth vs.toList i with | some v => some (.val v s) | none => none
    | _ => none
  | .call c =>
    match c.callee with
    | .value f => match callTarget (opv tm f) (c.args.toList.map (opv tm)) with
      | some (g, args) => some (.call g args s)
      | none => none
    | .builtin b => builtinOf P ro s b c.argTypes.toList (c.args.toList.map (opv tm))
    | .invoke _ _ => none
  | .defer c =>
    match c.callee with
    | .value f => match opv tm f with
      | .func fn first captured => some (.dfr { target := .fn fn captured, args := (first.toList ++ c.args.toList.map (opv tm)).toArray } s)
      | _ => none
    | _ => none
  | .panic x => match opv tm x with
    | .iface t v => some (.pan (.iface t v) s)
    | _ => none
  | _ => none

inductive Ex where
  | normal | exit (id : Nat) | ret
  | panic (chain : List PanicEntry)

structure Out where
  e : Ex
  a : AAct
  s : St

def putK {R : Type} (nt : Nat) (a : AAct) (dst : Option Tmp) (v : Value) (k : AAct → Option R) : Option R :=
  match dst with
  | none => k a
  | some d => bif Nat.blt d nt then T.setK (d + 1) a.tm d v fun tm => k ⟨tm, a.defers⟩ else none

def wantedA (ops : List Oper) (tm : T Value) (o : Oper) : Option Bool :=
  match o.guard with
  | none => some true
  | some (j, w) =>
    match nth ops j with
    | some oj => match oj.dst with
      | some d => match tm.get d with
        | some (.bool b) => some (b == w)
        | some (.chan _) => none
        | _ => some false
      | none => none
    | none => none

inductive Ret where
  | ok (v : Value) (s : St)
  | pan (chain : List PanicEntry) (s : St)

/-- Calls of functions, handed in. -/
abbrev CallE := FuncId → List Value → St → Option Ret

/-- What one operation comes to, calls taken in. -/
def stepOp (callF : CallE) (tm : T Value) (o : Op) (s : St) : Option (Sum Ret (Deferred × St)) :=
  match evalOp P ro tm o s with
  | none => none
  | some (.val v s') => bif Nat.ble s.next s'.next then some (.inl (.ok v s')) else none
  | some (.dfr d _) => some (.inr (d, s))
  | some (.rcv _) => none
  | some (.pan v _) => some (.inl (.pan [{ v, recovered := false }] s))
  | some (.call f args _) =>
    match callF f args s with
    | some (.ok v s') => bif Nat.ble s.next s'.next then some (.inl (.ok v s')) else none
    | some (.pan ch s') => bif Nat.ble s.next s'.next then some (.inl (.pan ch s')) else none
    | none => none

def evalOps (callF : CallE) (nt : Nat) (all : List Oper) : List Oper → AAct → St → Option Out
  | [], a, s => some ⟨.normal, a, s⟩
  | o :: rest, a, s =>
    match wantedA all a.tm o with
    | none => none
    | some true =>
      match stepOp P ro callF a.tm o.op s with
      | none => none
      | some (.inl (.ok v s)) => putK nt a o.dst v fun a => evalOps callF nt all rest a s
      | some (.inl (.pan ch s)) => some ⟨.panic ch, a, s⟩
      | some (.inr (d, s)) => putK nt ⟨a.tm, d :: a.defers⟩ o.dst und fun a => evalOps callF nt all rest a s
    | some false => putK nt a o.dst und fun a => evalOps callF nt all rest a s

/-- How an operation stands to the heap: it asks nothing of it; it makes a block of what it is handed; it reads; else. -/
inductive Cls where
  | pure | make | read | act

def clsOf (P : Program) : Op → Cls
  | .move _ | .assign _ | .pick .. | .build .. | .nilCheck _ | .unOp .. | .makeInterface .. | .makeFunc .. | .fieldAddr .. | .field .. | .indexAddr .. | .index .. | .extract .. => .pure
  | .typeAssert .. => .pure
  | .alloc _ | .box .. | .buildSlice .. | .makeSlice .. => .make
  | .makeMap .. => .make
  | .load .. | .lookup .. | .slice .. => .read
  | .binOp op _ _ _ _ => match op with | .eql | .neq => .read | _ => .pure
  | .convert src dst _ => match P.underlying src, P.underlying dst with
    | some (.slice _), some .string => .read
    | some (.slice _), some (.slice _) => .act
    | _, some (.slice _) => .make
    | _, _ => .pure
  | .call c => match c.callee with
    | .builtin .len => .read
    | .builtin .max | .builtin .min => .pure
    | _ => .act
  | _ => .act

/-- A note of one operation of a drawn region. 'ran': its guard let it through. -/
structure Rec where
  i : Nat
  o : Oper
  tm : T Value
  s : St
  s' : St
  v : Value
  ran : Bool

def isActO (P : Program) (o : Oper) : Bool := match clsOf P o.op with | .act => true | _ => false
def isMakeO (P : Program) (o : Oper) : Bool := match clsOf P o.op with | .make => true | _ => false

def bitOf (bef : List Nat) (i j : Nat) : Bool := match nth bef i with | some m => m.testBit j | none => false

/-- The operations of a region whose order is drawn, one behind the other, with a note of each. -/
def evalDraw (callF : CallE) (nt : Nat) (all : List Oper) : List (Nat × Oper) → AAct → St → Option (AAct × St × List Rec)
  | [], a, s => some (a, s, [])
  | (i, o) :: rest, a, s =>
    match wantedA all a.tm o with
    | none => none
    | some true =>
      match stepOp P ro callF a.tm o.op s with
      | some (.inl (.ok v s')) =>
        putK nt a o.dst v fun a' =>
          match evalDraw callF nt all rest a' s' with
          | some (a2, s2, log) => some (a2, s2, ⟨i, o, a.tm, s, s', v, true⟩ :: log)
          | none => none
      | _ => none
    | some false =>
      putK nt a o.dst und fun a' =>
        match evalDraw callF nt all rest a' s with
        | some (a2, s2, log) => some (a2, s2, ⟨i, o, a.tm, s, s, und, false⟩ :: log)
        | none => none

/-- The same value? (Asked of what was read.) -/
def sameV : Nat → Value → Value → Bool
  | 0, _, _ => false
  | d + 1, a, b =>
    match a, b with
    | .bool a, .bool b => a == b
    | .int k a, .int k' b => k == k' && eqI a b
    | .string a, .string b => beqBytes a.data.toList b.data.toList
    | .pointer none, .pointer none => true
    | .pointer (some a), .pointer (some b) => Nat.beq a.block b.block && Nat.beq a.off b.off && a.spot.isNone && b.spot.isNone
    | .slice none m n, .slice none m' n' => Nat.beq m m' && Nat.beq n n'
    | .slice (some a) m n, .slice (some b) m' n' => Nat.beq a.block b.block && Nat.beq a.off b.off && a.spot.isNone && b.spot.isNone && Nat.beq m m' && Nat.beq n n'
    | .map none, .map none => true
    | .map (some a), .map (some b) => Nat.beq a b
    | .nilFunc, .nilFunc => true
    | .nilIface, .nilIface => true
    | .iface t a, .iface u b => Nat.beq t u && sameV d a b
    | .agg a, .agg b => sameVs d a.toList b.toList
    | .tuple a, .tuple b => sameVs d a.toList b.toList
    | .func (.func f) a b, .func (.func g) a' b' => Nat.beq f g && sameVs d a.toList a'.toList && sameVs d b.toList b'.toList
    | _, _ => false
  where
  sameVs (d : Nat) : List Value → List Value → Bool
    | [], [] => true
    | a :: l, b :: m => sameV d a b && sameVs d l m
    | _, _ => false

def isVal (v : Value) : Option Res → Bool
  | some (.val u _) => sameV 4 v u
  | _ => false

def isRead (P : Program) (r : Rec) : Bool := match clsOf P r.o.op with | .read => r.ran | _ => false
def isAct (P : Program) (r : Rec) : Bool := match clsOf P r.o.op with | .act => r.ran | _ => false

def ordered (bef : List Nat) (i j : Nat) : Bool := bif Nat.blt i j then bitOf bef j i else bitOf bef i j

/-- What was read is the same behind and ahead of each act that is not ordered against the reading. -/
def stillR (bef : List Nat) (log : List Rec) : Bool :=
  log.all fun r => !isRead P r || log.all fun e => !isAct P e || ordered bef r.i e.i ||
    (isVal r.v (evalOp P ro r.tm r.o.op e.s) && isVal r.v (evalOp P ro r.tm r.o.op e.s'))

def maskOf (acc : List Nat) : List Edge → Nat
  | [] => 0
  | e :: es => bif Region.binds .any e then maskOf acc es ||| (2 ^ e.on ||| (match nth acc e.on with | some m => m | none => 0)) else maskOf acc es

def befGo : List Oper → List Nat → List Nat
  | [], acc => acc
  | o :: l, acc => befGo l (acc ++ [maskOf acc o.after.toList])

/-- For each operation the set of those that stand ahead of it in every order. -/
def befOf (ops : Array Oper) : List Nat := befGo ops.toList []

/-- Of two operations, the one behind the other: they are ordered so; or they touch no slot of each other's, are not both acts, and no making stands ahead of an act. -/
def pairsOk (P : Program) (ops : Array Oper) (bef : List Nat) : List (Nat × Oper) → Bool
  | [] => true
  | (i, x) :: rest =>
    (rest.all fun (j, y) => bif ordered bef i j then Nat.blt i j else (!Nat.beq i j && Oper.apart ops x y && !(isActO P x && isActO P y) && !(isMakeO P x && isActO P y))) && pairsOk P ops bef rest

def readyIn (bef : List Nat) (pool : List (Nat × Oper)) (i : Nat) : Bool := pool.all fun (j, _) => !bitOf bef i j

/-- One linear order of a region's operations: what makes new memory comes as late as can be. -/
def canon (P : Program) (bef : List Nat) : Nat → List (Nat × Oper) → List (Nat × Oper)
  | 0, _ => []
  | f + 1, pool =>
    match pool.find? fun (i, o) => !isMakeO P o && readyIn bef pool i with
    | some x => x :: canon P bef f (pool.filter fun y => !Nat.beq y.1 x.1)
    | none =>
      match pool.find? fun (i, _) => readyIn bef pool i with
      | some x => x :: canon P bef f (pool.filter fun y => !Nat.beq y.1 x.1)
      | none => []

def canonOf (P : Program) (ops : Array Oper) : List (Nat × Oper) := canon P (befOf ops) ops.size (ops.toList.zipIdx.map fun (o, i) => (i, o))

def lowerIn (md : Region.Mode) (ops : List (Nat × Oper)) : Bool := ops.all fun (i, o) => o.after.toList.all fun e => !Region.binds md e || Nat.blt e.on i

def hasAll (n : Nat) (l : List Nat) : Bool := (List.range n).all fun i => l.any fun j => Nat.beq j i

def poolOf (ops : Array Oper) : List (Nat × Oper) := ops.toList.zipIdx.map fun (o, i) => (i, o)

def drawOk (P : Program) (ops : Array Oper) : Bool :=
  lowerIn .any (poolOf ops) &&
  (P.follows .mixedOrders || !Region.departs ops || (lowerIn .text (poolOf ops) && hasAll ops.size (Region.linearise .gc ops 0))) &&
  pairsOk P ops (befOf ops) (canonOf P ops) && hasAll ops.size ((canonOf P ops).map (·.1))

def evalC (callF : CallE) (nt : Nat) : Nat → Code → AAct → St → Option Out
  | 0, _, _, _ => none
  | k + 1, c, a, s =>
    match c with
    | .skip => some ⟨.normal, a, s⟩
    | .label _ => some ⟨.normal, a, s⟩
    | .region _ ops draw =>
      bif draw then
        bif drawOk P ops then
          match evalDraw P ro callF nt ops.toList (canonOf P ops) a s with
          | some (a', s', log) => bif stillR P ro (befOf ops) log then some ⟨.normal, a', s'⟩ else none
          | none => none
        else none
      else evalOps P ro callF nt ops.toList ops.toList a s
    | .seq x y =>
      match evalC callF nt k x a s with
      | some ⟨.normal, a, s⟩ => evalC callF nt k y a s
      | r => r
    | .cond c x y =>
      match opv a.tm c with
      | .bool true => evalC callF nt k x a s
      | .bool false => evalC callF nt k y a s
      | _ => none
    | .block id body =>
      match evalC callF nt k body a s with
      | some ⟨.exit i, a, s⟩ => bif Nat.beq i id then some ⟨.normal, a, s⟩ else some ⟨.exit i, a, s⟩
      | r => r
    | .loop body =>
      match evalC callF nt k body a s with
      | some ⟨.normal, a, s⟩ => evalC callF nt k (.loop body) a s
      | r => r
    | .exit id => some ⟨.exit id, a, s⟩
    | .ret => some ⟨.ret, a, s⟩
    | _ => none

/-! ### The bodies of deferred calls, which may recover. -/

def recovered (dm : FrameMode) : Value × FrameMode :=
  match dm with
  | .panicking ({ v, recovered := false, goexit := false } :: older) => (v, .panicking ({ v, recovered := true } :: older))
  | m => (.nilIface, m)

def evalOpsS (callF : CallE) (nt : Nat) (all : List Oper) : List Oper → AAct → FrameMode → St → Option (Out × FrameMode)
  | [], a, dm, s => some (⟨.normal, a, s⟩, dm)
  | o :: rest, a, dm, s =>
    match wantedA all a.tm o with
    | none => none
    | some true =>
      match evalOp P ro a.tm o.op s with
      | some (.rcv _) => match recovered dm with
        | (v, dm) => putK nt a o.dst v fun a => evalOpsS callF nt all rest a dm s
      | _ =>
      match stepOp P ro callF a.tm o.op s with
      | none => none
      | some (.inl (.ok v s)) => putK nt a o.dst v fun a => evalOpsS callF nt all rest a dm s
      | some (.inl (.pan ch s)) => some (⟨.panic ch, a, s⟩, dm)
      | some (.inr _) => none
    | some false => putK nt a o.dst und fun a => evalOpsS callF nt all rest a dm s

def evalS (callF : CallE) (nt : Nat) : Nat → Code → AAct → FrameMode → St → Option (Out × FrameMode)
  | 0, _, _, _, _ => none
  | k + 1, c, a, dm, s =>
    match c with
    | .skip => some (⟨.normal, a, s⟩, dm)
    | .ret => some (⟨.ret, a, s⟩, dm)
    | .region _ ops draw => bif draw then none else evalOpsS P ro callF nt ops.toList ops.toList a dm s
    | .seq x y =>
      match evalS callF nt k x a dm s with
      | some (⟨.normal, a, s⟩, dm) => evalS callF nt k y a dm s
      | r => r
    | .cond c x y =>
      match opv a.tm c with
      | .bool true => evalS callF nt k x a dm s
      | .bool false => evalS callF nt k y a dm s
      | _ => none
    | _ => none

def resultsOf (s : St) (tm : T Value) : List ResultVar → Option (List Value)
  | [] => some []
  | .tmp t :: l => match resultsOf s tm l with
    | some r => some ((match tm.get t with | some v => v | none => und) :: r)
    | none => none
  | .cell a t :: l =>
    match tm.get a with
    | some (.pointer (some ad)) =>
      match ldVar P s t ad, resultsOf s tm l with
      | some v, some r => some (v :: r)
      | _, _ => none
    | _ => none

def retOf (fn : Func) (tm : T Value) (s : St) : Option Ret :=
  match resultsOf P s tm fn.results.toList with
  | some [v] => some (.ok v s)
  | some vs => some (.ok (.tuple vs.toArray) s)
  | none => none

abbrev DeferE := FuncId → List Value → FrameMode → St → Option (Ret × FrameMode)

/-- Run deferred calls, in mode u. -/
def leave (deferF : DeferE) (fn : Func) (tm : T Value) : List Deferred → FrameMode → St → Option Ret
  | [], .returning, s => retOf P fn tm s
  | [], .panicking ch, s => some (.pan ch s)
  | [], .run, _ => none
  | _ :: _, .run, _ => none
  | d :: ds, u, s =>
    match d.target with
    | .fn (.func f) cap =>
      match deferF f (d.args.toList ++ cap.toList) u s with
      | none => none
      | some (.ok _ s', u) => bif Nat.ble s.next s'.next then leave deferF fn tm ds (settle u) s' else none
      | some (.pan ch s', u) => bif Nat.ble s.next s'.next then leave deferF fn tm ds (raised u ch) s' else none
    | _ => none

def finish (deferF : DeferE) (fn : Func) (o : Out) : Option Ret :=
  match o.e with
  | .normal => leave P deferF fn o.a.tm o.a.defers .returning o.s
  | .ret => leave P deferF fn o.a.tm o.a.defers .returning o.s
  | .panic ch => leave P deferF fn o.a.tm o.a.defers (.panicking ch) o.s
  | .exit _ => none

end

section
variable (fns : FuncId → Option Func) (P : Program) (ro : Nat)

/-- A deferred call's body: it may recover; no deferred calls of its own. -/
def evalD (callF : CallE) (k : Nat) : DeferE := fun f args u s =>
  match fns f with
  | some fn =>
    match fn.body with
    | some c =>
      bif Nat.ble args.length fn.ntmps then
      T.setsK args 0 .leaf fun tm =>
      match evalS P ro callF fn.ntmps k c ⟨tm, []⟩ u s with
      | some (⟨e, a, s⟩, dm) =>
        match e with
        | .normal => match retOf P fn a.tm s with | some r => some (r, dm) | none => none
        | .ret => match retOf P fn a.tm s with | some r => some (r, dm) | none => none
        | .panic ch => some (.pan ch s, dm)
        | .exit _ => none
      | none => none
      else none
    | none => none
  | none => none

def evalF : Nat → CallE
  | 0, _, _, _ => none
  | k + 1, f, args, s =>
    match fns f with
    | some fn =>
      match fn.body with
      | some c =>
        bif Nat.ble args.length fn.ntmps then
        T.setsK args 0 .leaf fun tm =>
        match evalC P ro (evalF k) fn.ntmps k c ⟨tm, []⟩ s with
        | some o => finish P (evalD fns P ro (evalF k) k) fn o
        | none => none
        else none
      | none => none
    | none => none
end

def okTrue : Option Ret → Bool
  | some (.ok (.bool b) _) => b
  | _ => false

/-- The functions of a program, by their numbers. -/
def fnsOf (P : Program) (i : FuncId) : Option Func := P.funcs[i]?

end

end Go.Ab
