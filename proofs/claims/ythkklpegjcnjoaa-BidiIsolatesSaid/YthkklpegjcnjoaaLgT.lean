/- A part of the proof: rules for walking code over the evaluator, and what the functions that were walked come to: no condition but those that each theorem states. -/
import Derived.Test.YthkklpegjcnjoaaLgB
import Derived.Test.YthkklpegjcnjoaaChecked
import Derived.KernelRfl
set_option linter.unusedVariables false
set_option linter.unusedSimpArgs false
namespace Go.Proofs.Ythkklpegjcnjoaa
open Go.Ab
instance : TCell Try.prog 3 := ⟨by kernel_rfl, by kernel_rfl⟩
instance : TZero Try.prog 3 [(.int .i64 0)] := ⟨by kernel_rfl⟩
instance : TNoIface Try.prog 3 := ⟨⟨_, Try.underlying3, fun _ h => by cases h⟩⟩
theorem tinfo3 : (Try.prog.info? 3).map (fun i => (i.size, i.bytes)) = some (1, 8) := by kernel_rfl
instance : TInfo Try.prog 3 1 8 := tinfo_of tinfo3
instance : TCell Try.prog 4 := ⟨by kernel_rfl, by kernel_rfl⟩
instance : TZero Try.prog 4 [(.bool false)] := ⟨by kernel_rfl⟩
instance : TNoIface Try.prog 4 := ⟨⟨_, Try.underlying4, fun _ h => by cases h⟩⟩
theorem tinfo4 : (Try.prog.info? 4).map (fun i => (i.size, i.bytes)) = some (1, 1) := by kernel_rfl
instance : TInfo Try.prog 4 1 1 := tinfo_of tinfo4
instance : TCell Try.prog 9 := ⟨by kernel_rfl, by kernel_rfl⟩
instance : TZero Try.prog 9 [(.string ⟨#[]⟩)] := ⟨by kernel_rfl⟩
instance : TNoIface Try.prog 9 := ⟨⟨_, Try.underlying9, fun _ h => by cases h⟩⟩
theorem tinfo9 : (Try.prog.info? 9).map (fun i => (i.size, i.bytes)) = some (1, 16) := by kernel_rfl
instance : TInfo Try.prog 9 1 16 := tinfo_of tinfo9
instance : TSlice Try.prog 23 3 1 := ⟨Try.underlying23, by kernel_rfl⟩
instance : TCell Try.prog 23 := ⟨by kernel_rfl, by kernel_rfl⟩
instance : TZero Try.prog 23 [(.slice none 0 0)] := ⟨by kernel_rfl⟩
instance : TNoIface Try.prog 23 := ⟨⟨_, Try.underlying23, fun _ h => by cases h⟩⟩
theorem tinfo23 : (Try.prog.info? 23).map (fun i => (i.size, i.bytes)) = some (1, 24) := by kernel_rfl
instance : TInfo Try.prog 23 1 24 := tinfo_of tinfo23
instance : TCell Try.prog 28 := ⟨by kernel_rfl, by kernel_rfl⟩
instance : TZero Try.prog 28 [(.int .i64 0)] := ⟨by kernel_rfl⟩
instance : TNoIface Try.prog 28 := ⟨⟨_, Try.underlying28, fun _ h => by cases h⟩⟩
theorem tinfo28 : (Try.prog.info? 28).map (fun i => (i.size, i.bytes)) = some (1, 8) := by kernel_rfl
instance : TInfo Try.prog 28 1 8 := tinfo_of tinfo28
instance : TCell Try.prog 34 := ⟨by kernel_rfl, by kernel_rfl⟩
instance : TZero Try.prog 34 [.nilFunc] := ⟨by kernel_rfl⟩
instance : TNoIface Try.prog 34 := ⟨⟨_, Try.underlying34, fun _ h => by cases h⟩⟩
theorem tinfo34 : (Try.prog.info? 34).map (fun i => (i.size, i.bytes)) = some (1, 8) := by kernel_rfl
instance : TInfo Try.prog 34 1 8 := tinfo_of tinfo34
instance : TSlice Try.prog 37 39 2 := ⟨Try.underlying37, by kernel_rfl⟩
instance : TCell Try.prog 37 := ⟨by kernel_rfl, by kernel_rfl⟩
instance : TZero Try.prog 37 [(.slice none 0 0)] := ⟨by kernel_rfl⟩
instance : TNoIface Try.prog 37 := ⟨⟨_, Try.underlying37, fun _ h => by cases h⟩⟩
theorem tinfo37 : (Try.prog.info? 37).map (fun i => (i.size, i.bytes)) = some (1, 24) := by kernel_rfl
instance : TInfo Try.prog 37 1 24 := tinfo_of tinfo37
instance : TArr Try.prog 39 2 3 1 := ⟨Try.underlying39, by kernel_rfl⟩
instance : TAgg Try.prog 39 2 := ⟨by kernel_rfl, by kernel_rfl⟩
instance : TZero Try.prog 39 [(.int .i64 0), (.int .i64 0)] := ⟨by kernel_rfl⟩
instance : TNoIface Try.prog 39 := ⟨⟨_, Try.underlying39, fun _ h => by cases h⟩⟩
theorem tinfo39 : (Try.prog.info? 39).map (fun i => (i.size, i.bytes)) = some (2, 16) := by kernel_rfl
instance : TInfo Try.prog 39 2 16 := tinfo_of tinfo39
instance : TSlice Try.prog 40 48 4 := ⟨Try.underlying40, by kernel_rfl⟩
instance : TCell Try.prog 40 := ⟨by kernel_rfl, by kernel_rfl⟩
instance : TZero Try.prog 40 [(.slice none 0 0)] := ⟨by kernel_rfl⟩
instance : TNoIface Try.prog 40 := ⟨⟨_, Try.underlying40, fun _ h => by cases h⟩⟩
theorem tinfo40 : (Try.prog.info? 40).map (fun i => (i.size, i.bytes)) = some (1, 24) := by kernel_rfl
instance : TInfo Try.prog 40 1 24 := tinfo_of tinfo40
instance : TFld Try.prog 48 0 0 := ⟨⟨_, _, 0, Try.underlying48, rfl, by kernel_rfl, rfl⟩⟩
instance : TFld1 Try.prog 48 0 0 := ⟨⟨_, _, Try.underlying48, rfl, by kernel_rfl, rfl⟩⟩
instance : TFld Try.prog 48 1 1 := ⟨⟨_, _, 0, Try.underlying48, rfl, by kernel_rfl, rfl⟩⟩
instance : TFld1 Try.prog 48 1 1 := ⟨⟨_, _, Try.underlying48, rfl, by kernel_rfl, rfl⟩⟩
instance : TFld Try.prog 48 2 2 := ⟨⟨_, _, 0, Try.underlying48, rfl, by kernel_rfl, rfl⟩⟩
instance : TFld1 Try.prog 48 2 2 := ⟨⟨_, _, Try.underlying48, rfl, by kernel_rfl, rfl⟩⟩
instance : TFld Try.prog 48 3 3 := ⟨⟨_, _, 0, Try.underlying48, rfl, by kernel_rfl, rfl⟩⟩
instance : TFld1 Try.prog 48 3 3 := ⟨⟨_, _, Try.underlying48, rfl, by kernel_rfl, rfl⟩⟩
instance : TPlaces Try.prog 48 [(0, 1), (1, 1), (2, 1), (3, 1)] := ⟨⟨_, Try.underlying48, by kernel_rfl⟩⟩
instance : TAgg Try.prog 48 4 := ⟨by kernel_rfl, by kernel_rfl⟩
instance : TZero Try.prog 48 [(.int .i64 0), (.int .i64 0), (.int .i64 0), (.int .i64 0)] := ⟨by kernel_rfl⟩
instance : TNoIface Try.prog 48 := ⟨⟨_, Try.underlying48, fun _ h => by cases h⟩⟩
theorem tinfo48 : (Try.prog.info? 48).map (fun i => (i.size, i.bytes)) = some (4, 32) := by kernel_rfl
instance : TInfo Try.prog 48 4 32 := tinfo_of tinfo48
instance : TCell Try.prog 51 := ⟨by kernel_rfl, by kernel_rfl⟩
instance : TZero Try.prog 51 [(.pointer none)] := ⟨by kernel_rfl⟩
instance : TNoIface Try.prog 51 := ⟨⟨_, Try.underlying51, fun _ h => by cases h⟩⟩
theorem tinfo51 : (Try.prog.info? 51).map (fun i => (i.size, i.bytes)) = some (1, 8) := by kernel_rfl
instance : TInfo Try.prog 51 1 8 := tinfo_of tinfo51
instance : TFld Try.prog 53 0 0 := ⟨⟨_, _, 0, Try.underlying53, rfl, by kernel_rfl, rfl⟩⟩
instance : TFld1 Try.prog 53 0 0 := ⟨⟨_, _, Try.underlying53, rfl, by kernel_rfl, rfl⟩⟩
instance : TFld Try.prog 53 1 1 := ⟨⟨_, _, 0, Try.underlying53, rfl, by kernel_rfl, rfl⟩⟩
instance : TFld1 Try.prog 53 1 1 := ⟨⟨_, _, Try.underlying53, rfl, by kernel_rfl, rfl⟩⟩
instance : TFld Try.prog 53 2 2 := ⟨⟨_, _, 0, Try.underlying53, rfl, by kernel_rfl, rfl⟩⟩
instance : TFld1 Try.prog 53 2 2 := ⟨⟨_, _, Try.underlying53, rfl, by kernel_rfl, rfl⟩⟩
instance : TFld Try.prog 53 3 3 := ⟨⟨_, _, 0, Try.underlying53, rfl, by kernel_rfl, rfl⟩⟩
instance : TFld1 Try.prog 53 3 3 := ⟨⟨_, _, Try.underlying53, rfl, by kernel_rfl, rfl⟩⟩
instance : TFld Try.prog 53 4 4 := ⟨⟨_, _, 0, Try.underlying53, rfl, by kernel_rfl, rfl⟩⟩
instance : TFld1 Try.prog 53 4 4 := ⟨⟨_, _, Try.underlying53, rfl, by kernel_rfl, rfl⟩⟩
instance : TFld Try.prog 53 5 5 := ⟨⟨_, _, 0, Try.underlying53, rfl, by kernel_rfl, rfl⟩⟩
instance : TFld1 Try.prog 53 5 5 := ⟨⟨_, _, Try.underlying53, rfl, by kernel_rfl, rfl⟩⟩
instance : TPlaces Try.prog 53 [(0, 1), (1, 1), (2, 1), (3, 1), (4, 1), (5, 1)] := ⟨⟨_, Try.underlying53, by kernel_rfl⟩⟩
instance : TAgg Try.prog 53 6 := ⟨by kernel_rfl, by kernel_rfl⟩
instance : TZero Try.prog 53 [(.slice none 0 0), (.slice none 0 0), (.slice none 0 0), (.slice none 0 0), (.slice none 0 0), (.int .i64 0)] := ⟨by kernel_rfl⟩
instance : TNoIface Try.prog 53 := ⟨⟨_, Try.underlying53, fun _ h => by cases h⟩⟩
theorem tinfo53 : (Try.prog.info? 53).map (fun i => (i.size, i.bytes)) = some (6, 128) := by kernel_rfl
instance : TInfo Try.prog 53 6 128 := tinfo_of tinfo53
instance : TSlice Try.prog 55 57 1 := ⟨Try.underlying55, by kernel_rfl⟩
instance : TCell Try.prog 55 := ⟨by kernel_rfl, by kernel_rfl⟩
instance : TZero Try.prog 55 [(.slice none 0 0)] := ⟨by kernel_rfl⟩
instance : TNoIface Try.prog 55 := ⟨⟨_, Try.underlying55, fun _ h => by cases h⟩⟩
theorem tinfo55 : (Try.prog.info? 55).map (fun i => (i.size, i.bytes)) = some (1, 24) := by kernel_rfl
instance : TInfo Try.prog 55 1 24 := tinfo_of tinfo55
instance : TCell Try.prog 57 := ⟨by kernel_rfl, by kernel_rfl⟩
instance : TZero Try.prog 57 [(.pointer none)] := ⟨by kernel_rfl⟩
instance : TNoIface Try.prog 57 := ⟨⟨_, Try.underlying57, fun _ h => by cases h⟩⟩
theorem tinfo57 : (Try.prog.info? 57).map (fun i => (i.size, i.bytes)) = some (1, 8) := by kernel_rfl
instance : TInfo Try.prog 57 1 8 := tinfo_of tinfo57
instance : TFld Try.prog 59 0 0 := ⟨⟨_, _, 0, Try.underlying59, rfl, by kernel_rfl, rfl⟩⟩
instance : TFld1 Try.prog 59 0 0 := ⟨⟨_, _, Try.underlying59, rfl, by kernel_rfl, rfl⟩⟩
instance : TFld Try.prog 59 1 1 := ⟨⟨_, _, 0, Try.underlying59, rfl, by kernel_rfl, rfl⟩⟩
instance : TFld1 Try.prog 59 1 1 := ⟨⟨_, _, Try.underlying59, rfl, by kernel_rfl, rfl⟩⟩
instance : TFld Try.prog 59 2 2 := ⟨⟨_, _, 0, Try.underlying59, rfl, by kernel_rfl, rfl⟩⟩
instance : TFld1 Try.prog 59 2 2 := ⟨⟨_, _, Try.underlying59, rfl, by kernel_rfl, rfl⟩⟩
instance : TPlaces Try.prog 59 [(0, 1), (1, 1), (2, 1)] := ⟨⟨_, Try.underlying59, by kernel_rfl⟩⟩
instance : TAgg Try.prog 59 3 := ⟨by kernel_rfl, by kernel_rfl⟩
instance : TZero Try.prog 59 [(.int .i64 0), (.int .i64 0), (.int .i64 0)] := ⟨by kernel_rfl⟩
instance : TNoIface Try.prog 59 := ⟨⟨_, Try.underlying59, fun _ h => by cases h⟩⟩
theorem tinfo59 : (Try.prog.info? 59).map (fun i => (i.size, i.bytes)) = some (3, 24) := by kernel_rfl
instance : TInfo Try.prog 59 3 24 := tinfo_of tinfo59
instance : TCell Try.prog 65 := ⟨by kernel_rfl, by kernel_rfl⟩
instance : TZero Try.prog 65 [(.pointer none)] := ⟨by kernel_rfl⟩
instance : TNoIface Try.prog 65 := ⟨⟨_, Try.underlying65, fun _ h => by cases h⟩⟩
theorem tinfo65 : (Try.prog.info? 65).map (fun i => (i.size, i.bytes)) = some (1, 8) := by kernel_rfl
instance : TInfo Try.prog 65 1 8 := tinfo_of tinfo65
instance : TSlice Try.prog 66 72 3 := ⟨Try.underlying66, by kernel_rfl⟩
instance : TCell Try.prog 66 := ⟨by kernel_rfl, by kernel_rfl⟩
instance : TZero Try.prog 66 [(.slice none 0 0)] := ⟨by kernel_rfl⟩
instance : TNoIface Try.prog 66 := ⟨⟨_, Try.underlying66, fun _ h => by cases h⟩⟩
theorem tinfo66 : (Try.prog.info? 66).map (fun i => (i.size, i.bytes)) = some (1, 24) := by kernel_rfl
instance : TInfo Try.prog 66 1 24 := tinfo_of tinfo66
instance : TFld Try.prog 68 0 0 := ⟨⟨_, _, 0, Try.underlying68, rfl, by kernel_rfl, rfl⟩⟩
instance : TFld1 Try.prog 68 0 0 := ⟨⟨_, _, Try.underlying68, rfl, by kernel_rfl, rfl⟩⟩
instance : TFld Try.prog 68 1 1 := ⟨⟨_, _, 0, Try.underlying68, rfl, by kernel_rfl, rfl⟩⟩
instance : TFld1 Try.prog 68 1 1 := ⟨⟨_, _, Try.underlying68, rfl, by kernel_rfl, rfl⟩⟩
instance : TFld Try.prog 68 2 2 := ⟨⟨_, _, 0, Try.underlying68, rfl, by kernel_rfl, rfl⟩⟩
instance : TFld1 Try.prog 68 2 2 := ⟨⟨_, _, Try.underlying68, rfl, by kernel_rfl, rfl⟩⟩
instance : TFld Try.prog 68 3 3 := ⟨⟨_, _, 0, Try.underlying68, rfl, by kernel_rfl, rfl⟩⟩
instance : TFld1 Try.prog 68 3 3 := ⟨⟨_, _, Try.underlying68, rfl, by kernel_rfl, rfl⟩⟩
instance : TFld Try.prog 68 4 4 := ⟨⟨_, _, 0, Try.underlying68, rfl, by kernel_rfl, rfl⟩⟩
instance : TFld1 Try.prog 68 4 4 := ⟨⟨_, _, Try.underlying68, rfl, by kernel_rfl, rfl⟩⟩
instance : TPlaces Try.prog 68 [(0, 1), (1, 1), (2, 1), (3, 1), (4, 1)] := ⟨⟨_, Try.underlying68, by kernel_rfl⟩⟩
instance : TAgg Try.prog 68 5 := ⟨by kernel_rfl, by kernel_rfl⟩
instance : TZero Try.prog 68 [(.pointer none), (.slice none 0 0), (.int .i64 0), (.int .i64 0), (.int .i64 0)] := ⟨by kernel_rfl⟩
instance : TNoIface Try.prog 68 := ⟨⟨_, Try.underlying68, fun _ h => by cases h⟩⟩
theorem tinfo68 : (Try.prog.info? 68).map (fun i => (i.size, i.bytes)) = some (5, 56) := by kernel_rfl
instance : TInfo Try.prog 68 5 56 := tinfo_of tinfo68
instance : TCell Try.prog 70 := ⟨by kernel_rfl, by kernel_rfl⟩
instance : TZero Try.prog 70 [.nilFunc] := ⟨by kernel_rfl⟩
instance : TNoIface Try.prog 70 := ⟨⟨_, Try.underlying70, fun _ h => by cases h⟩⟩
theorem tinfo70 : (Try.prog.info? 70).map (fun i => (i.size, i.bytes)) = some (1, 8) := by kernel_rfl
instance : TInfo Try.prog 70 1 8 := tinfo_of tinfo70
instance : TFld Try.prog 72 0 0 := ⟨⟨_, _, 0, Try.underlying72, rfl, by kernel_rfl, rfl⟩⟩
instance : TFld1 Try.prog 72 0 0 := ⟨⟨_, _, Try.underlying72, rfl, by kernel_rfl, rfl⟩⟩
instance : TFld Try.prog 72 1 1 := ⟨⟨_, _, 0, Try.underlying72, rfl, by kernel_rfl, rfl⟩⟩
instance : TFld1 Try.prog 72 1 1 := ⟨⟨_, _, Try.underlying72, rfl, by kernel_rfl, rfl⟩⟩
instance : TFld Try.prog 72 2 2 := ⟨⟨_, _, 0, Try.underlying72, rfl, by kernel_rfl, rfl⟩⟩
instance : TFld1 Try.prog 72 2 2 := ⟨⟨_, _, Try.underlying72, rfl, by kernel_rfl, rfl⟩⟩
instance : TPlaces Try.prog 72 [(0, 1), (1, 1), (2, 1)] := ⟨⟨_, Try.underlying72, by kernel_rfl⟩⟩
instance : TAgg Try.prog 72 3 := ⟨by kernel_rfl, by kernel_rfl⟩
instance : TZero Try.prog 72 [(.int .i64 0), (.int .i64 0), (.bool false)] := ⟨by kernel_rfl⟩
instance : TNoIface Try.prog 72 := ⟨⟨_, Try.underlying72, fun _ h => by cases h⟩⟩
theorem tinfo72 : (Try.prog.info? 72).map (fun i => (i.size, i.bytes)) = some (3, 24) := by kernel_rfl
instance : TInfo Try.prog 72 3 24 := tinfo_of tinfo72
instance : TMap Try.prog 74 3 57 (.int .i64) := ⟨Try.underlying74, Try.underlying3⟩
instance : TCell Try.prog 74 := ⟨by kernel_rfl, by kernel_rfl⟩
instance : TZero Try.prog 74 [(.map none)] := ⟨by kernel_rfl⟩
instance : TNoIface Try.prog 74 := ⟨⟨_, Try.underlying74, fun _ h => by cases h⟩⟩
theorem tinfo74 : (Try.prog.info? 74).map (fun i => (i.size, i.bytes)) = some (1, 8) := by kernel_rfl
instance : TInfo Try.prog 74 1 8 := tinfo_of tinfo74
instance : TFld Try.prog 76 0 0 := ⟨⟨_, _, 0, Try.underlying76, rfl, by kernel_rfl, rfl⟩⟩
instance : TFld1 Try.prog 76 0 0 := ⟨⟨_, _, Try.underlying76, rfl, by kernel_rfl, rfl⟩⟩
instance : TFld Try.prog 76 1 1 := ⟨⟨_, _, 0, Try.underlying76, rfl, by kernel_rfl, rfl⟩⟩
instance : TFld1 Try.prog 76 1 1 := ⟨⟨_, _, Try.underlying76, rfl, by kernel_rfl, rfl⟩⟩
instance : TFld Try.prog 76 2 2 := ⟨⟨_, _, 0, Try.underlying76, rfl, by kernel_rfl, rfl⟩⟩
instance : TFld1 Try.prog 76 2 2 := ⟨⟨_, _, Try.underlying76, rfl, by kernel_rfl, rfl⟩⟩
instance : TFld Try.prog 76 3 3 := ⟨⟨_, _, 0, Try.underlying76, rfl, by kernel_rfl, rfl⟩⟩
instance : TFld1 Try.prog 76 3 3 := ⟨⟨_, _, Try.underlying76, rfl, by kernel_rfl, rfl⟩⟩
instance : TFld Try.prog 76 4 4 := ⟨⟨_, _, 0, Try.underlying76, rfl, by kernel_rfl, rfl⟩⟩
instance : TFld1 Try.prog 76 4 4 := ⟨⟨_, _, Try.underlying76, rfl, by kernel_rfl, rfl⟩⟩
instance : TPlaces Try.prog 76 [(0, 1), (1, 1), (2, 1), (3, 1), (4, 1)] := ⟨⟨_, Try.underlying76, by kernel_rfl⟩⟩
instance : TAgg Try.prog 76 5 := ⟨by kernel_rfl, by kernel_rfl⟩
instance : TZero Try.prog 76 [(.pointer none), (.slice none 0 0), (.int .i64 0), (.int .i64 0), (.int .i64 0)] := ⟨by kernel_rfl⟩
instance : TNoIface Try.prog 76 := ⟨⟨_, Try.underlying76, fun _ h => by cases h⟩⟩
theorem tinfo76 : (Try.prog.info? 76).map (fun i => (i.size, i.bytes)) = some (5, 56) := by kernel_rfl
instance : TInfo Try.prog 76 5 56 := tinfo_of tinfo76
instance : TCell Try.prog 100 := ⟨by kernel_rfl, by kernel_rfl⟩
instance : TZero Try.prog 100 [.nilFunc] := ⟨by kernel_rfl⟩
instance : TNoIface Try.prog 100 := ⟨⟨_, Try.underlying100, fun _ h => by cases h⟩⟩
theorem tinfo100 : (Try.prog.info? 100).map (fun i => (i.size, i.bytes)) = some (1, 8) := by kernel_rfl
instance : TInfo Try.prog 100 1 8 := tinfo_of tinfo100
end Go.Proofs.Ythkklpegjcnjoaa

namespace Go.Ab
noncomputable section
/-! ### Short names: what is always told alike is not told -/
section
variable {X : CallE} {P : Program} {ro : Nat} {nt : Nat} {all rest : List Oper} {g : Gm} {ds : List Deferred} {s : St} {Q : Ex → Gm → List Deferred → St → Prop} {R : Value → St → Prop}
  {op : Op} {ty : TypeId} {pos : String} {after : Array Edge} {d : Nat} {i dj : Nat} {w b : Bool} {oj : Oper} {restD : List (Nat × Oper)} {QD : Gm → List Deferred → St → Prop} {ii : Nat} {v : Value} {x y c a : Operand} {H : Hp}
theorem cO (h : SV X P ro g op s (fun v s' => WO X P ro nt all rest (up g d v) ds s' Q)) (hd : d < nt := by decide) : WO X P ro nt all (⟨some d, op, ty, pos, after, none⟩ :: rest) g ds s Q := WO.cons h hd
theorem cD (h : SV X P ro g op s (fun v s' => WD X P ro nt all restD (up g d v) ds s' QD)) (hd : d < nt := by decide) : WD X P ro nt all ((ii, ⟨some d, op, ty, pos, after, none⟩) :: restD) g ds s QD := WD.cons h hd
theorem mvO (h : WO X P ro nt all rest (up g d v) ds s Q) (hx : NV (og g x) v := by constructor) (hd : d < nt := by decide) : WO X P ro nt all (⟨some d, .move x, ty, pos, after, none⟩ :: rest) g ds s Q := WO.cons (SV.moveV hx h) hd
theorem asO (h : WO X P ro nt all rest (up g d v) ds s Q) (hx : NV (og g x) v := by constructor) (hd : d < nt := by decide) : WO X P ro nt all (⟨some d, .assign x, ty, pos, after, none⟩ :: rest) g ds s Q := WO.cons (SV.assignV hx h) hd
theorem mvD (h : WD X P ro nt all restD (up g d v) ds s QD) (hx : NV (og g x) v := by constructor) (hd : d < nt := by decide) : WD X P ro nt all ((ii, ⟨some d, .move x, ty, pos, after, none⟩) :: restD) g ds s QD := WD.cons (SV.moveV hx h) hd
theorem asD (h : WD X P ro nt all restD (up g d v) ds s QD) (hx : NV (og g x) v := by constructor) (hd : d < nt := by decide) : WD X P ro nt all ((ii, ⟨some d, .assign x, ty, pos, after, none⟩) :: restD) g ds s QD := WD.cons (SV.assignV hx h) hd
theorem gyO (h1 : SV X P ro g op s (fun v s' => WO X P ro nt all rest (up g d v) ds s' Q)) (ho : nth all i = some oj := by exact rfl) (hj : oj.dst = some dj := by exact rfl) (hb : g dj = some (.bool b) := by exact rfl) (hw : b = w := by assumption) (hd : d < nt := by decide) :
    WO X P ro nt all (⟨some d, op, ty, pos, after, some (i, w)⟩ :: rest) g ds s Q := WO.guardY ho hj hb hw h1 hd
theorem gnO (h2 : WO X P ro nt all rest (up g d und) ds s Q) (ho : nth all i = some oj := by exact rfl) (hj : oj.dst = some dj := by exact rfl) (hb : g dj = some (.bool b) := by exact rfl) (hw : b = !w := by assumption) (hd : d < nt := by decide) :
    WO X P ro nt all (⟨some d, op, ty, pos, after, some (i, w)⟩ :: rest) g ds s Q := WO.guardN ho hj hb hw h2 hd
theorem gyD (h1 : SV X P ro g op s (fun v s' => WD X P ro nt all restD (up g d v) ds s' QD)) (ho : nth all i = some oj := by exact rfl) (hj : oj.dst = some dj := by exact rfl) (hb : g dj = some (.bool b) := by exact rfl) (hw : b = w := by assumption) (hd : d < nt := by decide) :
    WD X P ro nt all ((ii, ⟨some d, op, ty, pos, after, some (i, w)⟩) :: restD) g ds s QD := WD.guardY ho hj hb hw h1 hd
theorem gnD (h2 : WD X P ro nt all restD (up g d und) ds s QD) (ho : nth all i = some oj := by exact rfl) (hj : oj.dst = some dj := by exact rfl) (hb : g dj = some (.bool b) := by exact rfl) (hw : b = !w := by assumption) (hd : d < nt := by decide) :
    WD X P ro nt all ((ii, ⟨some d, op, ty, pos, after, some (i, w)⟩) :: restD) g ds s QD := WD.guardN ho hj hb hw h2 hd
theorem guD (h2 : WD X P ro nt all restD (up g d und) ds s QD) (ho : nth all i = some oj := by exact rfl) (hj : oj.dst = some dj := by exact rfl) (hb : g dj = some und := by exact rfl) (hd : d < nt := by decide) :
    WD X P ro nt all ((ii, ⟨some d, op, ty, pos, after, some (i, w)⟩) :: restD) g ds s QD := WD.guardU ho hj hb h2 hd
theorem ldM {t : TypeId} [TCell P t] {ν o es : Nat} {vs : List Value} {u : Value} (hR : R u s) (hM : Models ro s H := by assumption) (hx : og g x = .pointer (some ⟨ν, o, none⟩) := by exact rfl) (hH : H ν = some (.row es vs) := by assumption) (hv : vs[o]? = some u := by rfl) :
    SV X P ro g (.load t x) s R := SV.loadM hM hx hH hv hR
theorem ldI {t : TypeId} [TCell P t] {ν es : Nat} {L : List Int} {j : Int} (hR : R (.int .i64 (rd L j)) s) (hM : Models ro s H := by assumption) (hx : og g x = .pointer (some ⟨ν, 0 + j.toNat * 1, none⟩) := by exact rfl) (hH : H ν = some (.row es (L.map (Value.int .i64))) := by assumption) (h0 : 0 ≤ j := by omega) (h1 : j < L.length := by omega) :
    SV X P ro g (.load t x) s R := SV.loadM hM hx hH (ints_get0 h0 h1) hR
section
variable {t yt : TypeId} {m n : Int}
theorem adI (hR : R (.int .i64 (m + n)) s) (hx : og g x = .int .i64 m := by exact rfl) (hy : og g y = .int .i64 n := by exact rfl) (h : -9223372036854775808 ≤ m + n ∧ m + n < 9223372036854775808 := by omega) : SV X P ro g (.binOp .add t x y yt) s R := SV.add64 hx hy h hR
theorem sbI (hR : R (.int .i64 (m - n)) s) (hx : og g x = .int .i64 m := by exact rfl) (hy : og g y = .int .i64 n := by exact rfl) (h : -9223372036854775808 ≤ m - n ∧ m - n < 9223372036854775808 := by omega) : SV X P ro g (.binOp .sub t x y yt) s R := SV.sub64 hx hy h hR
end
theorem pT (hR : R v s) (hc : og g c = .bool b := by exact rfl) (hb : b = true := by assumption) (hx : NV (og g x) v := by constructor) : SV X P ro g (.pick c x y) s R := SV.pickTV hc hb hx hR
theorem pF (hR : R v s) (hc : og g c = .bool b := by exact rfl) (hb : b = false := by assumption) (hx : NV (og g y) v := by constructor) : SV X P ro g (.pick c x y) s R := SV.pickFV hc hb hx hR
theorem WC.dr {id : Nat} {ops : Array Oper} (l : List Nat) {Q : Ex → Gm → List Deferred → St → Prop} (h : WD X P ro nt ops.toList (pickOps ops.toList l) g ds s (Q .normal)) (hd : drawOk P ops = true := by kernel_rfl) (hl : canonOf P ops = pickOps ops.toList l := by kernel_rfl)
    (hc : calm P (befOf ops) (pickOps ops.toList l) = true := by kernel_rfl) : WC X P ro nt (.region id ops true) g ds s Q := WC.draw l hd hl hc h
end
end
end Go.Ab
