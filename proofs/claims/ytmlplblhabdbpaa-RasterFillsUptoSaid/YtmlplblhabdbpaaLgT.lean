/- A part of the proof: rules for walking code over the evaluator, and what the functions that were walked come to: no condition but those that each theorem states. -/
import Derived.Test.YtmlplblhabdbpaaLgB
import Derived.Test.YtmlplblhabdbpaaChecked
import Derived.KernelRfl
set_option linter.unusedVariables false
set_option linter.unusedSimpArgs false
namespace Go.Proofs.Ytmlplblhabdbpaa
open Go.Ab
instance : TCell Try.prog 3 := ⟨by kernel_rfl, by kernel_rfl⟩
instance : TZero Try.prog 3 [(.int .i64 0)] := ⟨by kernel_rfl⟩
instance : TNoIface Try.prog 3 := ⟨⟨_, Try.underlying3, fun _ h => by cases h⟩⟩
theorem tinfo3 : (Try.prog.info? 3).map (fun i => (i.size, i.bytes)) = some (1, 8) := by kernel_rfl
instance : TInfo Try.prog 3 1 8 := tinfo_of tinfo3
instance : TCell Try.prog 4 := ⟨by kernel_rfl, by kernel_rfl⟩
instance : TZero Try.prog 4 [(.bool false)] := ⟨by kernel_rfl⟩
instance : TNoIface Try.prog 4 := ⟨⟨_, Try.underlying4, fun _ h => by cases h⟩⟩
theorem tinfo4 : (Try.prog.info? 4).map (fun i => (i.size, i.bytes)) = some (1, 1) := by kernel_rfl
instance : TInfo Try.prog 4 1 1 := tinfo_of tinfo4
instance : TCell Try.prog 5 := ⟨by kernel_rfl, by kernel_rfl⟩
instance : TZero Try.prog 5 [(.int .u8 0)] := ⟨by kernel_rfl⟩
instance : TNoIface Try.prog 5 := ⟨⟨_, Try.underlying5, fun _ h => by cases h⟩⟩
theorem tinfo5 : (Try.prog.info? 5).map (fun i => (i.size, i.bytes)) = some (1, 1) := by kernel_rfl
instance : TInfo Try.prog 5 1 1 := tinfo_of tinfo5
instance : TCell Try.prog 9 := ⟨by kernel_rfl, by kernel_rfl⟩
instance : TZero Try.prog 9 [(.string ⟨#[]⟩)] := ⟨by kernel_rfl⟩
instance : TNoIface Try.prog 9 := ⟨⟨_, Try.underlying9, fun _ h => by cases h⟩⟩
theorem tinfo9 : (Try.prog.info? 9).map (fun i => (i.size, i.bytes)) = some (1, 16) := by kernel_rfl
instance : TInfo Try.prog 9 1 16 := tinfo_of tinfo9
instance : TSlice Try.prog 23 34 1 := ⟨Try.underlying23, by kernel_rfl⟩
instance : TCell Try.prog 23 := ⟨by kernel_rfl, by kernel_rfl⟩
instance : TZero Try.prog 23 [(.slice none 0 0)] := ⟨by kernel_rfl⟩
instance : TNoIface Try.prog 23 := ⟨⟨_, Try.underlying23, fun _ h => by cases h⟩⟩
theorem tinfo23 : (Try.prog.info? 23).map (fun i => (i.size, i.bytes)) = some (1, 24) := by kernel_rfl
instance : TInfo Try.prog 23 1 24 := tinfo_of tinfo23
instance : TSlice Try.prog 25 5 1 := ⟨Try.underlying25, by kernel_rfl⟩
instance : TCell Try.prog 25 := ⟨by kernel_rfl, by kernel_rfl⟩
instance : TZero Try.prog 25 [(.slice none 0 0)] := ⟨by kernel_rfl⟩
instance : TNoIface Try.prog 25 := ⟨⟨_, Try.underlying25, fun _ h => by cases h⟩⟩
theorem tinfo25 : (Try.prog.info? 25).map (fun i => (i.size, i.bytes)) = some (1, 24) := by kernel_rfl
instance : TInfo Try.prog 25 1 24 := tinfo_of tinfo25
instance : TFld Try.prog 27 0 0 := ⟨⟨_, _, 0, Try.underlying27, rfl, by kernel_rfl, rfl⟩⟩
instance : TFld1 Try.prog 27 0 0 := ⟨⟨_, _, Try.underlying27, rfl, by kernel_rfl, rfl⟩⟩
instance : TFld Try.prog 27 1 1 := ⟨⟨_, _, 0, Try.underlying27, rfl, by kernel_rfl, rfl⟩⟩
instance : TFld1 Try.prog 27 1 1 := ⟨⟨_, _, Try.underlying27, rfl, by kernel_rfl, rfl⟩⟩
instance : TFld Try.prog 27 2 2 := ⟨⟨_, _, 0, Try.underlying27, rfl, by kernel_rfl, rfl⟩⟩
instance : TFld1 Try.prog 27 2 2 := ⟨⟨_, _, Try.underlying27, rfl, by kernel_rfl, rfl⟩⟩
instance : TFld Try.prog 27 3 3 := ⟨⟨_, _, 0, Try.underlying27, rfl, by kernel_rfl, rfl⟩⟩
instance : TFld1 Try.prog 27 3 3 := ⟨⟨_, _, Try.underlying27, rfl, by kernel_rfl, rfl⟩⟩
instance : TFld Try.prog 27 4 4 := ⟨⟨_, _, 0, Try.underlying27, rfl, by kernel_rfl, rfl⟩⟩
instance : TFld1 Try.prog 27 4 4 := ⟨⟨_, _, Try.underlying27, rfl, by kernel_rfl, rfl⟩⟩
instance : TPlaces Try.prog 27 [(0, 1), (1, 1), (2, 1), (3, 1), (4, 1)] := ⟨⟨_, Try.underlying27, by kernel_rfl⟩⟩
instance : TAgg Try.prog 27 5 := ⟨by kernel_rfl, by kernel_rfl⟩
instance : TZero Try.prog 27 [(.int .i64 0), (.int .i64 0), (.int .i64 0), (.int .i64 0), (.slice none 0 0)] := ⟨by kernel_rfl⟩
instance : TNoIface Try.prog 27 := ⟨⟨_, Try.underlying27, fun _ h => by cases h⟩⟩
theorem tinfo27 : (Try.prog.info? 27).map (fun i => (i.size, i.bytes)) = some (5, 56) := by kernel_rfl
instance : TInfo Try.prog 27 5 56 := tinfo_of tinfo27
instance : TCell Try.prog 28 := ⟨by kernel_rfl, by kernel_rfl⟩
instance : TZero Try.prog 28 [(.int .i64 0)] := ⟨by kernel_rfl⟩
instance : TNoIface Try.prog 28 := ⟨⟨_, Try.underlying28, fun _ h => by cases h⟩⟩
theorem tinfo28 : (Try.prog.info? 28).map (fun i => (i.size, i.bytes)) = some (1, 8) := by kernel_rfl
instance : TInfo Try.prog 28 1 8 := tinfo_of tinfo28
instance : TSlice Try.prog 34 45 2 := ⟨Try.underlying34, by kernel_rfl⟩
instance : TCell Try.prog 34 := ⟨by kernel_rfl, by kernel_rfl⟩
instance : TZero Try.prog 34 [(.slice none 0 0)] := ⟨by kernel_rfl⟩
instance : TNoIface Try.prog 34 := ⟨⟨_, Try.underlying34, fun _ h => by cases h⟩⟩
theorem tinfo34 : (Try.prog.info? 34).map (fun i => (i.size, i.bytes)) = some (1, 24) := by kernel_rfl
instance : TInfo Try.prog 34 1 24 := tinfo_of tinfo34
instance : TFld Try.prog 36 0 0 := ⟨⟨_, _, 0, Try.underlying36, rfl, by kernel_rfl, rfl⟩⟩
instance : TFld1 Try.prog 36 0 0 := ⟨⟨_, _, Try.underlying36, rfl, by kernel_rfl, rfl⟩⟩
instance : TFld Try.prog 36 1 1 := ⟨⟨_, _, 0, Try.underlying36, rfl, by kernel_rfl, rfl⟩⟩
instance : TFld1 Try.prog 36 1 1 := ⟨⟨_, _, Try.underlying36, rfl, by kernel_rfl, rfl⟩⟩
instance : TFld Try.prog 36 2 2 := ⟨⟨_, _, 0, Try.underlying36, rfl, by kernel_rfl, rfl⟩⟩
instance : TFld1 Try.prog 36 2 2 := ⟨⟨_, _, Try.underlying36, rfl, by kernel_rfl, rfl⟩⟩
instance : TFld Try.prog 36 3 3 := ⟨⟨_, _, 0, Try.underlying36, rfl, by kernel_rfl, rfl⟩⟩
instance : TFld1 Try.prog 36 3 3 := ⟨⟨_, _, Try.underlying36, rfl, by kernel_rfl, rfl⟩⟩
instance : TPlaces Try.prog 36 [(0, 1), (1, 1), (2, 1), (3, 1)] := ⟨⟨_, Try.underlying36, by kernel_rfl⟩⟩
instance : TAgg Try.prog 36 4 := ⟨by kernel_rfl, by kernel_rfl⟩
instance : TZero Try.prog 36 [(.int .i64 0), (.int .i64 0), (.int .i64 0), (.int .i64 0)] := ⟨by kernel_rfl⟩
instance : TNoIface Try.prog 36 := ⟨⟨_, Try.underlying36, fun _ h => by cases h⟩⟩
theorem tinfo36 : (Try.prog.info? 36).map (fun i => (i.size, i.bytes)) = some (4, 32) := by kernel_rfl
instance : TInfo Try.prog 36 4 32 := tinfo_of tinfo36
instance : TArr Try.prog 43 2 3 1 := ⟨Try.underlying43, by kernel_rfl⟩
instance : TAgg Try.prog 43 2 := ⟨by kernel_rfl, by kernel_rfl⟩
instance : TZero Try.prog 43 [(.int .i64 0), (.int .i64 0)] := ⟨by kernel_rfl⟩
instance : TNoIface Try.prog 43 := ⟨⟨_, Try.underlying43, fun _ h => by cases h⟩⟩
theorem tinfo43 : (Try.prog.info? 43).map (fun i => (i.size, i.bytes)) = some (2, 16) := by kernel_rfl
instance : TInfo Try.prog 43 2 16 := tinfo_of tinfo43
instance : TFld Try.prog 45 0 0 := ⟨⟨_, _, 0, Try.underlying45, rfl, by kernel_rfl, rfl⟩⟩
instance : TFld1 Try.prog 45 0 0 := ⟨⟨_, _, Try.underlying45, rfl, by kernel_rfl, rfl⟩⟩
instance : TFld Try.prog 45 1 1 := ⟨⟨_, _, 0, Try.underlying45, rfl, by kernel_rfl, rfl⟩⟩
instance : TFld1 Try.prog 45 1 1 := ⟨⟨_, _, Try.underlying45, rfl, by kernel_rfl, rfl⟩⟩
instance : TPlaces Try.prog 45 [(0, 1), (1, 1)] := ⟨⟨_, Try.underlying45, by kernel_rfl⟩⟩
instance : TAgg Try.prog 45 2 := ⟨by kernel_rfl, by kernel_rfl⟩
instance : TZero Try.prog 45 [(.int .i64 0), (.int .i64 0)] := ⟨by kernel_rfl⟩
instance : TNoIface Try.prog 45 := ⟨⟨_, Try.underlying45, fun _ h => by cases h⟩⟩
theorem tinfo45 : (Try.prog.info? 45).map (fun i => (i.size, i.bytes)) = some (2, 16) := by kernel_rfl
instance : TInfo Try.prog 45 2 16 := tinfo_of tinfo45
instance : TSlice Try.prog 53 3 1 := ⟨Try.underlying53, by kernel_rfl⟩
instance : TCell Try.prog 53 := ⟨by kernel_rfl, by kernel_rfl⟩
instance : TZero Try.prog 53 [(.slice none 0 0)] := ⟨by kernel_rfl⟩
instance : TNoIface Try.prog 53 := ⟨⟨_, Try.underlying53, fun _ h => by cases h⟩⟩
theorem tinfo53 : (Try.prog.info? 53).map (fun i => (i.size, i.bytes)) = some (1, 24) := by kernel_rfl
instance : TInfo Try.prog 53 1 24 := tinfo_of tinfo53
instance : TSlice Try.prog 60 79 5 := ⟨Try.underlying60, by kernel_rfl⟩
instance : TCell Try.prog 60 := ⟨by kernel_rfl, by kernel_rfl⟩
instance : TZero Try.prog 60 [(.slice none 0 0)] := ⟨by kernel_rfl⟩
instance : TNoIface Try.prog 60 := ⟨⟨_, Try.underlying60, fun _ h => by cases h⟩⟩
theorem tinfo60 : (Try.prog.info? 60).map (fun i => (i.size, i.bytes)) = some (1, 24) := by kernel_rfl
instance : TInfo Try.prog 60 1 24 := tinfo_of tinfo60
instance : TFld Try.prog 62 0 0 := ⟨⟨_, _, 0, Try.underlying62, rfl, by kernel_rfl, rfl⟩⟩
instance : TFld1 Try.prog 62 0 0 := ⟨⟨_, _, Try.underlying62, rfl, by kernel_rfl, rfl⟩⟩
instance : TFld Try.prog 62 1 1 := ⟨⟨_, _, 0, Try.underlying62, rfl, by kernel_rfl, rfl⟩⟩
instance : TFld1 Try.prog 62 1 1 := ⟨⟨_, _, Try.underlying62, rfl, by kernel_rfl, rfl⟩⟩
instance : TPlaces Try.prog 62 [(0, 1), (1, 1)] := ⟨⟨_, Try.underlying62, by kernel_rfl⟩⟩
instance : TAgg Try.prog 62 2 := ⟨by kernel_rfl, by kernel_rfl⟩
instance : TZero Try.prog 62 [(.int .i64 0), (.slice none 0 0)] := ⟨by kernel_rfl⟩
instance : TNoIface Try.prog 62 := ⟨⟨_, Try.underlying62, fun _ h => by cases h⟩⟩
theorem tinfo62 : (Try.prog.info? 62).map (fun i => (i.size, i.bytes)) = some (2, 32) := by kernel_rfl
instance : TInfo Try.prog 62 2 32 := tinfo_of tinfo62
instance : TCell Try.prog 64 := ⟨by kernel_rfl, by kernel_rfl⟩
instance : TZero Try.prog 64 [.nilFunc] := ⟨by kernel_rfl⟩
instance : TNoIface Try.prog 64 := ⟨⟨_, Try.underlying64, fun _ h => by cases h⟩⟩
theorem tinfo64 : (Try.prog.info? 64).map (fun i => (i.size, i.bytes)) = some (1, 8) := by kernel_rfl
instance : TInfo Try.prog 64 1 8 := tinfo_of tinfo64
instance : TCell Try.prog 70 := ⟨by kernel_rfl, by kernel_rfl⟩
instance : TZero Try.prog 70 [.nilFunc] := ⟨by kernel_rfl⟩
instance : TNoIface Try.prog 70 := ⟨⟨_, Try.underlying70, fun _ h => by cases h⟩⟩
theorem tinfo70 : (Try.prog.info? 70).map (fun i => (i.size, i.bytes)) = some (1, 8) := by kernel_rfl
instance : TInfo Try.prog 70 1 8 := tinfo_of tinfo70
instance : TCell Try.prog 73 := ⟨by kernel_rfl, by kernel_rfl⟩
instance : TZero Try.prog 73 [(.int .u64 0)] := ⟨by kernel_rfl⟩
instance : TNoIface Try.prog 73 := ⟨⟨_, Try.underlying73, fun _ h => by cases h⟩⟩
theorem tinfo73 : (Try.prog.info? 73).map (fun i => (i.size, i.bytes)) = some (1, 8) := by kernel_rfl
instance : TInfo Try.prog 73 1 8 := tinfo_of tinfo73
instance : TSlice Try.prog 74 104 4 := ⟨Try.underlying74, by kernel_rfl⟩
instance : TCell Try.prog 74 := ⟨by kernel_rfl, by kernel_rfl⟩
instance : TZero Try.prog 74 [(.slice none 0 0)] := ⟨by kernel_rfl⟩
instance : TNoIface Try.prog 74 := ⟨⟨_, Try.underlying74, fun _ h => by cases h⟩⟩
theorem tinfo74 : (Try.prog.info? 74).map (fun i => (i.size, i.bytes)) = some (1, 24) := by kernel_rfl
instance : TInfo Try.prog 74 1 24 := tinfo_of tinfo74
instance : TSlice Try.prog 77 83 2 := ⟨Try.underlying77, by kernel_rfl⟩
instance : TCell Try.prog 77 := ⟨by kernel_rfl, by kernel_rfl⟩
instance : TZero Try.prog 77 [(.slice none 0 0)] := ⟨by kernel_rfl⟩
instance : TNoIface Try.prog 77 := ⟨⟨_, Try.underlying77, fun _ h => by cases h⟩⟩
theorem tinfo77 : (Try.prog.info? 77).map (fun i => (i.size, i.bytes)) = some (1, 24) := by kernel_rfl
instance : TInfo Try.prog 77 1 24 := tinfo_of tinfo77
instance : TFld Try.prog 79 0 0 := ⟨⟨_, _, 0, Try.underlying79, rfl, by kernel_rfl, rfl⟩⟩
instance : TFld1 Try.prog 79 0 0 := ⟨⟨_, _, Try.underlying79, rfl, by kernel_rfl, rfl⟩⟩
instance : TFld Try.prog 79 1 1 := ⟨⟨_, _, 0, Try.underlying79, rfl, by kernel_rfl, rfl⟩⟩
instance : TFld1 Try.prog 79 1 1 := ⟨⟨_, _, Try.underlying79, rfl, by kernel_rfl, rfl⟩⟩
instance : TFld Try.prog 79 2 2 := ⟨⟨_, _, 0, Try.underlying79, rfl, by kernel_rfl, rfl⟩⟩
instance : TFld1 Try.prog 79 2 2 := ⟨⟨_, _, Try.underlying79, rfl, by kernel_rfl, rfl⟩⟩
instance : TFld Try.prog 79 3 3 := ⟨⟨_, _, 0, Try.underlying79, rfl, by kernel_rfl, rfl⟩⟩
instance : TFld1 Try.prog 79 3 3 := ⟨⟨_, _, Try.underlying79, rfl, by kernel_rfl, rfl⟩⟩
instance : TFld Try.prog 79 4 4 := ⟨⟨_, _, 0, Try.underlying79, rfl, by kernel_rfl, rfl⟩⟩
instance : TFld1 Try.prog 79 4 4 := ⟨⟨_, _, Try.underlying79, rfl, by kernel_rfl, rfl⟩⟩
instance : TPlaces Try.prog 79 [(0, 1), (1, 1), (2, 1), (3, 1), (4, 1)] := ⟨⟨_, Try.underlying79, by kernel_rfl⟩⟩
instance : TAgg Try.prog 79 5 := ⟨by kernel_rfl, by kernel_rfl⟩
instance : TZero Try.prog 79 [(.int .i64 0), (.int .i64 0), (.int .i64 0), (.int .i64 0), (.int .i64 0)] := ⟨by kernel_rfl⟩
instance : TNoIface Try.prog 79 := ⟨⟨_, Try.underlying79, fun _ h => by cases h⟩⟩
theorem tinfo79 : (Try.prog.info? 79).map (fun i => (i.size, i.bytes)) = some (5, 40) := by kernel_rfl
instance : TInfo Try.prog 79 5 40 := tinfo_of tinfo79
instance : TCell Try.prog 81 := ⟨by kernel_rfl, by kernel_rfl⟩
instance : TZero Try.prog 81 [.nilFunc] := ⟨by kernel_rfl⟩
instance : TNoIface Try.prog 81 := ⟨⟨_, Try.underlying81, fun _ h => by cases h⟩⟩
theorem tinfo81 : (Try.prog.info? 81).map (fun i => (i.size, i.bytes)) = some (1, 8) := by kernel_rfl
instance : TInfo Try.prog 81 1 8 := tinfo_of tinfo81
instance : TFld Try.prog 83 0 0 := ⟨⟨_, _, 0, Try.underlying83, rfl, by kernel_rfl, rfl⟩⟩
instance : TFld1 Try.prog 83 0 0 := ⟨⟨_, _, Try.underlying83, rfl, by kernel_rfl, rfl⟩⟩
instance : TFld Try.prog 83 1 1 := ⟨⟨_, _, 0, Try.underlying83, rfl, by kernel_rfl, rfl⟩⟩
instance : TFld1 Try.prog 83 1 1 := ⟨⟨_, _, Try.underlying83, rfl, by kernel_rfl, rfl⟩⟩
instance : TPlaces Try.prog 83 [(0, 1), (1, 1)] := ⟨⟨_, Try.underlying83, by kernel_rfl⟩⟩
instance : TAgg Try.prog 83 2 := ⟨by kernel_rfl, by kernel_rfl⟩
instance : TZero Try.prog 83 [(.int .i64 0), (.int .i64 0)] := ⟨by kernel_rfl⟩
instance : TNoIface Try.prog 83 := ⟨⟨_, Try.underlying83, fun _ h => by cases h⟩⟩
theorem tinfo83 : (Try.prog.info? 83).map (fun i => (i.size, i.bytes)) = some (2, 16) := by kernel_rfl
instance : TInfo Try.prog 83 2 16 := tinfo_of tinfo83
instance : TCell Try.prog 85 := ⟨by kernel_rfl, by kernel_rfl⟩
instance : TZero Try.prog 85 [.nilFunc] := ⟨by kernel_rfl⟩
instance : TNoIface Try.prog 85 := ⟨⟨_, Try.underlying85, fun _ h => by cases h⟩⟩
theorem tinfo85 : (Try.prog.info? 85).map (fun i => (i.size, i.bytes)) = some (1, 8) := by kernel_rfl
instance : TInfo Try.prog 85 1 8 := tinfo_of tinfo85
instance : TCell Try.prog 87 := ⟨by kernel_rfl, by kernel_rfl⟩
instance : TZero Try.prog 87 [.nilFunc] := ⟨by kernel_rfl⟩
instance : TNoIface Try.prog 87 := ⟨⟨_, Try.underlying87, fun _ h => by cases h⟩⟩
theorem tinfo87 : (Try.prog.info? 87).map (fun i => (i.size, i.bytes)) = some (1, 8) := by kernel_rfl
instance : TInfo Try.prog 87 1 8 := tinfo_of tinfo87
instance : TCell Try.prog 102 := ⟨by kernel_rfl, by kernel_rfl⟩
instance : TZero Try.prog 102 [.nilFunc] := ⟨by kernel_rfl⟩
instance : TNoIface Try.prog 102 := ⟨⟨_, Try.underlying102, fun _ h => by cases h⟩⟩
theorem tinfo102 : (Try.prog.info? 102).map (fun i => (i.size, i.bytes)) = some (1, 8) := by kernel_rfl
instance : TInfo Try.prog 102 1 8 := tinfo_of tinfo102
instance : TFld Try.prog 104 0 0 := ⟨⟨_, _, 1, Try.underlying104, rfl, by kernel_rfl, rfl⟩⟩
instance : TFldA Try.prog 104 0 0 2 := ⟨⟨_, _, Try.underlying104, rfl, by kernel_rfl, by kernel_rfl, rfl⟩⟩
instance : TFld Try.prog 104 1 2 := ⟨⟨_, _, 1, Try.underlying104, rfl, by kernel_rfl, rfl⟩⟩
instance : TFldA Try.prog 104 1 2 2 := ⟨⟨_, _, Try.underlying104, rfl, by kernel_rfl, by kernel_rfl, rfl⟩⟩
instance : TPlaces Try.prog 104 [(0, 2), (2, 2)] := ⟨⟨_, Try.underlying104, by kernel_rfl⟩⟩
instance : TAgg Try.prog 104 4 := ⟨by kernel_rfl, by kernel_rfl⟩
instance : TZero Try.prog 104 [(.int .i64 0), (.int .i64 0), (.int .i64 0), (.int .i64 0)] := ⟨by kernel_rfl⟩
instance : TNoIface Try.prog 104 := ⟨⟨_, Try.underlying104, fun _ h => by cases h⟩⟩
theorem tinfo104 : (Try.prog.info? 104).map (fun i => (i.size, i.bytes)) = some (4, 32) := by kernel_rfl
instance : TInfo Try.prog 104 4 32 := tinfo_of tinfo104
instance : TFld Try.prog 125 0 0 := ⟨⟨_, _, 3, Try.underlying125, rfl, by kernel_rfl, rfl⟩⟩
instance : TFldA Try.prog 125 0 0 4 := ⟨⟨_, _, Try.underlying125, rfl, by kernel_rfl, by kernel_rfl, rfl⟩⟩
instance : TFld Try.prog 125 1 4 := ⟨⟨_, _, 0, Try.underlying125, rfl, by kernel_rfl, rfl⟩⟩
instance : TFld1 Try.prog 125 1 4 := ⟨⟨_, _, Try.underlying125, rfl, by kernel_rfl, rfl⟩⟩
instance : TPlaces Try.prog 125 [(0, 4), (4, 1)] := ⟨⟨_, Try.underlying125, by kernel_rfl⟩⟩
instance : TAgg Try.prog 125 5 := ⟨by kernel_rfl, by kernel_rfl⟩
instance : TZero Try.prog 125 [(.int .i64 0), (.int .i64 0), (.int .i64 0), (.int .i64 0), (.bool false)] := ⟨by kernel_rfl⟩
instance : TNoIface Try.prog 125 := ⟨⟨_, Try.underlying125, fun _ h => by cases h⟩⟩
theorem tinfo125 : (Try.prog.info? 125).map (fun i => (i.size, i.bytes)) = some (5, 40) := by kernel_rfl
instance : TInfo Try.prog 125 5 40 := tinfo_of tinfo125
end Go.Proofs.Ytmlplblhabdbpaa

namespace Go.Ab
/-! ### Rows in order, and what keeps or makes order: no program in sight -/
section
variable {α : Type}
def Srt (key : α → Int) (L : List α) : Prop := L.Pairwise fun x y => key x ≤ key y
variable {key : α → Int}
theorem Srt.nil : Srt key [] := List.Pairwise.nil
theorem Srt.one (x : α) : Srt key [x] := List.pairwise_singleton _ _
theorem Srt.app {L M : List α} : Srt key (L ++ M) ↔ Srt key L ∧ Srt key M ∧ ∀ x ∈ L, ∀ y ∈ M, key x ≤ key y := List.pairwise_append
theorem Srt.le_last {X : List α} {l : α} (h : Srt key X) (hl : X.getLast? = some l) : ∀ x ∈ X, key x ≤ key l := by
  intro x hx
  obtain ⟨Y, rfl⟩ : ∃ Y, X = Y ++ [l] := by
    rw [List.getLast?_eq_some_iff] at hl; exact hl
  rcases List.mem_append.mp hx with hx | hx
  · exact (Srt.app.mp h).2.2 x hx l (by simp)
  · rw [List.mem_singleton.mp hx]; exact Int.le_refl _
theorem Srt.head_le {X : List α} {l : α} (h : Srt key X) (hl : X.head? = some l) : ∀ x ∈ X, key l ≤ key x := by
  cases X with
  | nil => cases hl
  | cons a X =>
    cases hl
    intro x hx
    rcases List.mem_cons.mp hx with rfl | hx
    · exact Int.le_refl _
    · exact (List.pairwise_cons.mp h).1 x hx
theorem cross_le {X Y : List α} (hX : Srt key X) (hY : Srt key Y) (h : ∀ x y, X.getLast? = some x → Y.head? = some y → key x ≤ key y) : ∀ x ∈ X, ∀ y ∈ Y, key x ≤ key y := by
  intro x hx y hy
  obtain ⟨l, hl⟩ : ∃ l, X.getLast? = some l := by
    cases e : X.getLast? with
    | none => rw [List.getLast?_eq_none_iff] at e; subst e; cases hx
    | some l => exact ⟨l, rfl⟩
  obtain ⟨f, hf⟩ : ∃ f, Y.head? = some f := by
    cases Y with
    | nil => cases hy
    | cons a Y => exact ⟨a, rfl⟩
  have := hX.le_last hl x hx
  have := hY.head_le hf y hy
  have := h l f hl hf
  omega
theorem Srt.merge {X1 X2 Y1 Y2 Z1 Z2 : List α} (hX : Srt key (X1 ++ X2)) (hY : Srt key (Y1 ++ Y2)) (h1 : ∀ x y, X1.getLast? = some x → Y2.head? = some y → key x ≤ key y)
    (h2 : ∀ y x, Y1.getLast? = some y → X2.head? = some x → key y ≤ key x) (p1 : Z1.Perm (X1 ++ Y1)) (p2 : Z2.Perm (X2 ++ Y2)) (s1 : Srt key Z1) (s2 : Srt key Z2) : Srt key (Z1 ++ Z2) := by
  obtain ⟨x1, x2, x3⟩ := Srt.app.mp hX
  obtain ⟨y1, y2, y3⟩ := Srt.app.mp hY
  refine Srt.app.mpr ⟨s1, s2, fun a ha b hb => ?_⟩
  have ha := p1.mem_iff.mp ha
  have hb := p2.mem_iff.mp hb
  rcases List.mem_append.mp ha with ha | ha <;> rcases List.mem_append.mp hb with hb | hb
  · exact x3 a ha b hb
  · exact cross_le x1 y2 h1 a ha b hb
  · exact cross_le y1 x2 h2 a ha b hb
  · exact y3 a ha b hb
theorem Srt.ins {Z1 Z2 : List α} {y : α} (h : Srt key (Z1 ++ Z2)) (h1 : ∀ x, Z1.getLast? = some x → key x ≤ key y) (h2 : ∀ x, Z2.head? = some x → key y ≤ key x) : Srt key (Z1 ++ y :: Z2) := by
  obtain ⟨a, b, c⟩ := Srt.app.mp h
  have e : Z1 ++ y :: Z2 = (Z1 ++ [y]) ++ Z2 := by simp
  rw [e]
  refine Srt.app.mpr ⟨Srt.app.mpr ⟨a, Srt.one y, fun x hx z hz => ?_⟩, b, fun x hx z hz => ?_⟩
  · rw [List.mem_singleton.mp hz]
    exact cross_le a (Srt.one y) (fun u v hu hv => by cases hv; exact h1 u hu) x hx y (by simp)
  · rcases List.mem_append.mp hx with hx | hx
    · exact c x hx z hz
    · rw [List.mem_singleton.mp hx]
      exact cross_le (Srt.one y) b (fun u v hu hv => by cases hu; exact h2 v hv) y (by simp) z hz
/-! ### Places in a row -/
theorem get_mid {A B : List α} {x : α} {k : Nat} (h : A.length = k) : (A ++ x :: B)[k]? = some x := by
  rw [List.getElem?_append_right (by omega), h, Nat.sub_self]; rfl
theorem set_mid {A B : List α} {x y : α} {k : Nat} (h : A.length = k) : (A ++ x :: B).set k y = A ++ y :: B := by
  rw [List.set_append_right _ _ (by omega), h, Nat.sub_self]; rfl
/-- Two neighbours change places. -/
theorem swap_next {A B : List α} {x y : α} {k : Nat} (h : A.length = k) : ((A ++ x :: y :: B).set k y).set (k + 1) x = A ++ y :: x :: B := by
  rw [set_mid h, show A ++ y :: y :: B = (A ++ [y]) ++ y :: B by simp, set_mid (by simp [h])]; simp
theorem swap_next' {A B : List α} {x y : α} {k : Nat} (h : A.length = k) : ((A ++ x :: y :: B).set (k + 1) x).set k y = A ++ y :: x :: B := by
  rw [show A ++ x :: y :: B = (A ++ [x]) ++ y :: B by simp, set_mid (by simp [h]), show (A ++ [x]) ++ x :: B = A ++ x :: x :: B by simp, set_mid h]
theorem swap_far {A M B : List α} {x y : α} {j k : Nat} (h : A.length = j) (h2 : j + 1 + M.length = k) : ((A ++ x :: (M ++ y :: B)).set j y).set k x = A ++ y :: (M ++ x :: B) := by
  rw [set_mid h, show A ++ y :: (M ++ y :: B) = (A ++ y :: M) ++ y :: B by simp, set_mid (by simp; omega)]; simp
theorem cut_at (L : List α) {n : Nat} (h : n ≤ L.length) : ∃ A B, L = A ++ B ∧ A.length = n := ⟨L.take n, L.drop n, (List.take_append_drop n L).symm, by rw [List.length_take]; omega⟩
theorem last_get {X : List α} {x : α} (h : X.getLast? = some x) (A B : List α) {k : Nat} (hk : A.length + X.length = k + 1) : (A ++ (X ++ B))[k]? = some x := by
  obtain ⟨Y, rfl⟩ : ∃ Y, X = Y ++ [x] := by rw [List.getLast?_eq_some_iff] at h; exact h
  rw [show A ++ ((Y ++ [x]) ++ B) = (A ++ Y) ++ x :: B by simp]
  exact get_mid (by simp at hk ⊢; omega)
theorem head_get {X : List α} {x : α} (h : X.head? = some x) (A B : List α) {k : Nat} (hk : A.length = k) : (A ++ (X ++ B))[k]? = some x := by
  cases X with
  | nil => cases h
  | cons a X => cases h; exact get_mid hk
theorem get_in {A Y B : List α} {y : α} {k j : Nat} (h : Y[j]? = some y) (hk : k = A.length + j) : (A ++ (Y ++ B))[k]? = some y := by
  have hj := (List.getElem?_eq_some_iff.mp h).1
  rw [List.getElem?_append_right (by omega), List.getElem?_append_left (by omega), show k - A.length = j by omega]; exact h
theorem last_at {X B : List α} {x : α} (h : X.getLast? = some x) {k : Nat} (hk : X.length = k + 1) : (X ++ B)[k]? = some x := last_get h [] B (by simpa using hk)
theorem head_at {A Y : List α} {y : α} (h : Y.head? = some y) {k : Nat} (hk : A.length = k) : (A ++ Y)[k]? = some y := by
  have := head_get h A [] hk; rwa [List.append_nil] at this
theorem pos_of_last {X : List α} {x : α} (h : X.getLast? = some x) : 0 < X.length := by
  cases X with | nil => cases h | cons a X => simp
theorem pos_of_head {X : List α} {x : α} (h : X.head? = some x) : 0 < X.length := by
  cases X with | nil => cases h | cons a X => simp
/-! ### Rows in blocks -/
/-- Blocks of a width, each in order. -/
def Blks (key : α → Int) (w : Nat) (Ls : List (List α)) : Prop := ∀ Z ∈ Ls, Z.length = w ∧ Srt key Z
theorem Blks.add {w : Nat} {Ls : List (List α)} {Z : List α} (h : Blks key w Ls) (h1 : Z.length = w) (h2 : Srt key Z) : Blks key w (Ls ++ [Z]) := fun Y hY => by
  rcases List.mem_append.mp hY with hY | hY
  · exact h Y hY
  · rw [List.mem_singleton.mp hY]; exact ⟨h1, h2⟩
/-- Blocks as wide as the row: the row is in order. -/
theorem Blks.done {w : Nat} {Ls : List (List α)} {T : List α} (h : Blks key w Ls) (hT : Srt key T) (hw : (Ls.flatten ++ T).length ≤ w) : Srt key (Ls.flatten ++ T) := by
  cases Ls with
  | nil => exact hT
  | cons A Ls =>
    have hA := h A (by simp)
    rw [List.flatten_cons, List.append_assoc, List.length_append] at hw
    have : Ls.flatten ++ T = [] := List.length_eq_zero_iff.mp (by omega)
    rw [List.flatten_cons, List.append_assoc, this, List.append_nil]
    exact hA.2
end
end Go.Ab
