/-
  No cell of these rows narrows 'for every input' (looked for: loops, veiled, ifaces, maps, wideKeys, modest, calm, conditions, laid).
  DERIVED. THE GIVEN ROWS OF THIS SEAT. 8 by the template 'for every input the law returns true; each argument reads behind the call as it read before'; 0 by the template 'total and deterministic' (their statements: YtneiaobhjjbedaaTotals.lean).
  GIVEN WITH THE SEED: the statements are not yours to turn. If you find one false, say at which input.
  Laid BY PROGRAM, IN A SANDBOX (cutbox-rows.mjs): the forced cells as the released guide's own fill.sh prints them over the translation f8d86c894d5e00d8… (all of the seat's roots in one cut). By AI agents, Wed Nov 11 2026. No macro, syntax, notation, axiom, sorry.
-/
import Derived.Test.YtneiaobhjjbedaaChecked
import GoSem.Claim
import GoSem.ClaimJoined
import GoSem.ClaimMapViews
import Derived.JoinedTies
import Derived.KernelRfl
namespace Go.Proofs.Ytneiaobhjjbedaa
/- THE CELL 'sum', in the pinned program and in every row, IS THE sha256 OF THE DUMP (.gsa) THAT YtneiaobhjjbedaaProg.lean LOADS. Nothing in Lean hashes anything: it is a label: what it is worth is what the hold of that sum in a sandbox is worth. -/
noncomputable def Try.pinned : Pinned := { name := "ytneiaobhjjbedaa", sum := "f8d86c894d5e00d83b8a4c0ef9afe5f03706817bc4167e0c67618a61ea8b733c", checked := Try.checked }
namespace Rows
def none {H : Type} : Left H := { results := [], args := [] }

/-- 'seriflaw15.OtlNames': WHATEVER THE INPUT: true; the input reads as it did. -/
def otlNamesSpec : ChangeSpec := { name := "otlNames", fn := fun _ => fun
  | [] => { results := [.lit (.bool true)], args := [] }
  | _ => none }
def otlNamesRow : OpenClaim := { program := "ytneiaobhjjbedaa", sum := "f8d86c894d5e00d83b8a4c0ef9afe5f03706817bc4167e0c67618a61ea8b733c", func := "serif/seriflaw15.OtlNames", spec := "otlNames", unfollowed := true, recurses := true, apart := false }
def OtlNamesSaid : Prop := otlNamesRow.holds Try.pinned (OpenSpec.ofChange otlNamesSpec)

/-- ITS FALSE NEIGHBOUR: 'it returns false'. Refute it at one input. -/
def otlNamesWrong : ChangeSpec := { name := "otlNames", fn := fun _ => fun
  | [] => { results := [.lit (.bool false)], args := [] }
  | _ => none }
def OtlNamesWrongFalsely : Prop := otlNamesRow.holds Try.pinned (OpenSpec.ofChange otlNamesWrong)

/-- 'seriflaw09.GstateNames': WHATEVER THE INPUT: true; the input reads as it did. -/
def gstateNamesSpec : ChangeSpec := { name := "gstateNames", fn := fun _ => fun
  | [] => { results := [.lit (.bool true)], args := [] }
  | _ => none }
def gstateNamesRow : OpenClaim := { program := "ytneiaobhjjbedaa", sum := "f8d86c894d5e00d83b8a4c0ef9afe5f03706817bc4167e0c67618a61ea8b733c", func := "serif/seriflaw09.GstateNames", spec := "gstateNames", unfollowed := true, recurses := true, named := ["math/bits.divideError", "math/bits.overflowError"], apart := false }
def GstateNamesSaid : Prop := gstateNamesRow.holds Try.pinned (OpenSpec.ofChange gstateNamesSpec)

/-- ITS FALSE NEIGHBOUR: 'it returns false'. Refute it at one input. -/
def gstateNamesWrong : ChangeSpec := { name := "gstateNames", fn := fun _ => fun
  | [] => { results := [.lit (.bool false)], args := [] }
  | _ => none }
def GstateNamesWrongFalsely : Prop := gstateNamesRow.holds Try.pinned (OpenSpec.ofChange gstateNamesWrong)

/-- 'seriflaw09.GstateRounds': WHATEVER THE INPUT: true; the input reads as it did. -/
def gstateRoundsSpec : ChangeSpec := { name := "gstateRounds", fn := fun _ => fun
  | [d1, d2] => { results := [.lit (.bool true)], args := [d1, d2] }
  | _ => none }
def gstateRoundsRow : OpenClaim := { program := "ytneiaobhjjbedaa", sum := "f8d86c894d5e00d83b8a4c0ef9afe5f03706817bc4167e0c67618a61ea8b733c", func := "serif/seriflaw09.GstateRounds", spec := "gstateRounds", unfollowed := true, recurses := true, named := ["math/bits.divideError", "math/bits.overflowError"], apart := false }
def GstateRoundsSaid : Prop := gstateRoundsRow.holds Try.pinned (OpenSpec.ofChange gstateRoundsSpec)

/-- ITS FALSE NEIGHBOUR: 'it returns false'. Refute it at one input. -/
def gstateRoundsWrong : ChangeSpec := { name := "gstateRounds", fn := fun _ => fun
  | [d1, d2] => { results := [.lit (.bool false)], args := [d1, d2] }
  | _ => none }
def GstateRoundsWrongFalsely : Prop := gstateRoundsRow.holds Try.pinned (OpenSpec.ofChange gstateRoundsWrong)

/-- 'seriflaw09.GstatePuts': WHATEVER THE INPUT: true; the input reads as it did. -/
def gstatePutsSpec : ChangeSpec := { name := "gstatePuts", fn := fun _ => fun
  | [d1, d2, d3] => { results := [.lit (.bool true)], args := [d1, d2, d3] }
  | _ => none }
def gstatePutsRow : OpenClaim := { program := "ytneiaobhjjbedaa", sum := "f8d86c894d5e00d83b8a4c0ef9afe5f03706817bc4167e0c67618a61ea8b733c", func := "serif/seriflaw09.GstatePuts", spec := "gstatePuts", unfollowed := true, recurses := true, named := ["math/bits.divideError", "math/bits.overflowError"], apart := false }
def GstatePutsSaid : Prop := gstatePutsRow.holds Try.pinned (OpenSpec.ofChange gstatePutsSpec)

/-- ITS FALSE NEIGHBOUR: 'it returns false'. Refute it at one input. -/
def gstatePutsWrong : ChangeSpec := { name := "gstatePuts", fn := fun _ => fun
  | [d1, d2, d3] => { results := [.lit (.bool false)], args := [d1, d2, d3] }
  | _ => none }
def GstatePutsWrongFalsely : Prop := gstatePutsRow.holds Try.pinned (OpenSpec.ofChange gstatePutsWrong)

/-- 'seriflaw09.GstateKeeps': WHATEVER THE INPUT: true; the input reads as it did. -/
def gstateKeepsSpec : ChangeSpec := { name := "gstateKeeps", fn := fun _ => fun
  | [d1, d2] => { results := [.lit (.bool true)], args := [d1, d2] }
  | _ => none }
def gstateKeepsRow : OpenClaim := { program := "ytneiaobhjjbedaa", sum := "f8d86c894d5e00d83b8a4c0ef9afe5f03706817bc4167e0c67618a61ea8b733c", func := "serif/seriflaw09.GstateKeeps", spec := "gstateKeeps", unfollowed := true, recurses := true, named := ["math/bits.divideError", "math/bits.overflowError"], apart := false }
def GstateKeepsSaid : Prop := gstateKeepsRow.holds Try.pinned (OpenSpec.ofChange gstateKeepsSpec)

/-- ITS FALSE NEIGHBOUR: 'it returns false'. Refute it at one input. -/
def gstateKeepsWrong : ChangeSpec := { name := "gstateKeeps", fn := fun _ => fun
  | [d1, d2] => { results := [.lit (.bool false)], args := [d1, d2] }
  | _ => none }
def GstateKeepsWrongFalsely : Prop := gstateKeepsRow.holds Try.pinned (OpenSpec.ofChange gstateKeepsWrong)

/-- 'seriflaw09.GstateShifts': WHATEVER THE INPUT: true; the input reads as it did. -/
def gstateShiftsSpec : ChangeSpec := { name := "gstateShifts", fn := fun _ => fun
  | [d1, d2, d3] => { results := [.lit (.bool true)], args := [d1, d2, d3] }
  | _ => none }
def gstateShiftsRow : OpenClaim := { program := "ytneiaobhjjbedaa", sum := "f8d86c894d5e00d83b8a4c0ef9afe5f03706817bc4167e0c67618a61ea8b733c", func := "serif/seriflaw09.GstateShifts", spec := "gstateShifts", unfollowed := true, recurses := true, named := ["math/bits.divideError", "math/bits.overflowError"], apart := false }
def GstateShiftsSaid : Prop := gstateShiftsRow.holds Try.pinned (OpenSpec.ofChange gstateShiftsSpec)

/-- ITS FALSE NEIGHBOUR: 'it returns false'. Refute it at one input. -/
def gstateShiftsWrong : ChangeSpec := { name := "gstateShifts", fn := fun _ => fun
  | [d1, d2, d3] => { results := [.lit (.bool false)], args := [d1, d2, d3] }
  | _ => none }
def GstateShiftsWrongFalsely : Prop := gstateShiftsRow.holds Try.pinned (OpenSpec.ofChange gstateShiftsWrong)

/-- 'seriflaw09.GstateZones': WHATEVER THE INPUT: true; the input reads as it did. -/
def gstateZonesSpec : ChangeSpec := { name := "gstateZones", fn := fun _ => fun
  | [d1, d2] => { results := [.lit (.bool true)], args := [d1, d2] }
  | _ => none }
def gstateZonesRow : OpenClaim := { program := "ytneiaobhjjbedaa", sum := "f8d86c894d5e00d83b8a4c0ef9afe5f03706817bc4167e0c67618a61ea8b733c", func := "serif/seriflaw09.GstateZones", spec := "gstateZones", unfollowed := true, recurses := true, named := ["math/bits.divideError", "math/bits.overflowError"], apart := false }
def GstateZonesSaid : Prop := gstateZonesRow.holds Try.pinned (OpenSpec.ofChange gstateZonesSpec)

/-- ITS FALSE NEIGHBOUR: 'it returns false'. Refute it at one input. -/
def gstateZonesWrong : ChangeSpec := { name := "gstateZones", fn := fun _ => fun
  | [d1, d2] => { results := [.lit (.bool false)], args := [d1, d2] }
  | _ => none }
def GstateZonesWrongFalsely : Prop := gstateZonesRow.holds Try.pinned (OpenSpec.ofChange gstateZonesWrong)

/-- 'seriflaw15.OtlPlans': WHATEVER THE INPUT: true; the input reads as it did. -/
def otlPlansSpec : ChangeSpec := { name := "otlPlans", fn := fun _ => fun
  | [d1, d2] => { results := [.lit (.bool true)], args := [d1, d2] }
  | _ => none }
def otlPlansRow : OpenClaim := { program := "ytneiaobhjjbedaa", sum := "f8d86c894d5e00d83b8a4c0ef9afe5f03706817bc4167e0c67618a61ea8b733c", func := "serif/seriflaw15.OtlPlans", spec := "otlPlans", unfollowed := true, recurses := true, apart := false }
def OtlPlansSaid : Prop := otlPlansRow.holds Try.pinned (OpenSpec.ofChange otlPlansSpec)

/-- ITS FALSE NEIGHBOUR: 'it returns false'. Refute it at one input. -/
def otlPlansWrong : ChangeSpec := { name := "otlPlans", fn := fun _ => fun
  | [d1, d2] => { results := [.lit (.bool false)], args := [d1, d2] }
  | _ => none }
def OtlPlansWrongFalsely : Prop := otlPlansRow.holds Try.pinned (OpenSpec.ofChange otlPlansWrong)

/- THE SECOND FORM. 'bulk': how many values and letters a reading holds, each counted each time it is reached (what is shared counts as often as it is met; a slice's spare places count too). A statement '..UptoSaid' is the law's where the arguments, and the package variables that the reading takes, are together of bulk at most 1048576: NARROWER than '..Said'. Prove '..Said' where nothing that the law and all that it calls make is longer than what came in: it says more and counts as full. Else prove '..UptoSaid'. A law counts once. -/
mutual
def uptoBulk {H : Type} : DataW H → Nat
  | .lit (.string bytes) => bytes.length + 1
  | .lit _ => 1
  | .nil => 1
  | .ptr d => uptoBulk d + 1
  | .slice elems spare => uptoBulkAll elems + uptoBulkAll spare + 1
  | .agg parts => uptoBulkAll parts + 1
  | .iface _ d => uptoBulk d + 1
  | .map entries => uptoBulkEntries entries + 1
  | .held _ => 1
def uptoBulkAll {H : Type} : List (DataW H) → Nat
  | [] => 0
  | d :: r => uptoBulk d + uptoBulkAll r
def uptoBulkEntries {H : Type} : List (Lit × DataW H) → Nat
  | [] => 0
  | x :: r => uptoBulkEntry x + uptoBulkEntries r
def uptoBulkEntry {H : Type} : Lit × DataW H → Nat
  | (.string bytes, d) => bytes.length + uptoBulk d + 1
  | (_, d) => uptoBulk d + 1
 end
def uptoSmall : (H : Type) → List (DataW H) → Bool := fun _ ds => decide (uptoBulkAll ds ≤ 1048576)
def OpenSpec.upto (s : _root_.Go.ChangeSpec) : _root_.Go.OpenSpec := { _root_.Go.OpenSpec.ofChange s with cond := some uptoSmall }

/-- 'seriflaw15.OtlNames', WHERE WHAT IT READS IS OF BULK AT MOST 1048576: true; the input reads as it did. -/
def otlNamesUptoRow : OpenClaim := { program := "ytneiaobhjjbedaa", sum := "f8d86c894d5e00d83b8a4c0ef9afe5f03706817bc4167e0c67618a61ea8b733c", func := "serif/seriflaw15.OtlNames", spec := "otlNames", unfollowed := true, recurses := true, apart := false, narrowed := true }
def OtlNamesUptoSaid : Prop := otlNamesUptoRow.holds Try.pinned (OpenSpec.upto otlNamesSpec)

/-- 'seriflaw09.GstateNames', WHERE WHAT IT READS IS OF BULK AT MOST 1048576: true; the input reads as it did. -/
def gstateNamesUptoRow : OpenClaim := { program := "ytneiaobhjjbedaa", sum := "f8d86c894d5e00d83b8a4c0ef9afe5f03706817bc4167e0c67618a61ea8b733c", func := "serif/seriflaw09.GstateNames", spec := "gstateNames", unfollowed := true, recurses := true, named := ["math/bits.divideError", "math/bits.overflowError"], apart := false, narrowed := true }
def GstateNamesUptoSaid : Prop := gstateNamesUptoRow.holds Try.pinned (OpenSpec.upto gstateNamesSpec)

/-- 'seriflaw09.GstateRounds', WHERE WHAT IT READS IS OF BULK AT MOST 1048576: true; the input reads as it did. -/
def gstateRoundsUptoRow : OpenClaim := { program := "ytneiaobhjjbedaa", sum := "f8d86c894d5e00d83b8a4c0ef9afe5f03706817bc4167e0c67618a61ea8b733c", func := "serif/seriflaw09.GstateRounds", spec := "gstateRounds", unfollowed := true, recurses := true, named := ["math/bits.divideError", "math/bits.overflowError"], apart := false, narrowed := true }
def GstateRoundsUptoSaid : Prop := gstateRoundsUptoRow.holds Try.pinned (OpenSpec.upto gstateRoundsSpec)

/-- 'seriflaw09.GstatePuts', WHERE WHAT IT READS IS OF BULK AT MOST 1048576: true; the input reads as it did. -/
def gstatePutsUptoRow : OpenClaim := { program := "ytneiaobhjjbedaa", sum := "f8d86c894d5e00d83b8a4c0ef9afe5f03706817bc4167e0c67618a61ea8b733c", func := "serif/seriflaw09.GstatePuts", spec := "gstatePuts", unfollowed := true, recurses := true, named := ["math/bits.divideError", "math/bits.overflowError"], apart := false, narrowed := true }
def GstatePutsUptoSaid : Prop := gstatePutsUptoRow.holds Try.pinned (OpenSpec.upto gstatePutsSpec)

/-- 'seriflaw09.GstateKeeps', WHERE WHAT IT READS IS OF BULK AT MOST 1048576: true; the input reads as it did. -/
def gstateKeepsUptoRow : OpenClaim := { program := "ytneiaobhjjbedaa", sum := "f8d86c894d5e00d83b8a4c0ef9afe5f03706817bc4167e0c67618a61ea8b733c", func := "serif/seriflaw09.GstateKeeps", spec := "gstateKeeps", unfollowed := true, recurses := true, named := ["math/bits.divideError", "math/bits.overflowError"], apart := false, narrowed := true }
def GstateKeepsUptoSaid : Prop := gstateKeepsUptoRow.holds Try.pinned (OpenSpec.upto gstateKeepsSpec)

/-- 'seriflaw09.GstateShifts', WHERE WHAT IT READS IS OF BULK AT MOST 1048576: true; the input reads as it did. -/
def gstateShiftsUptoRow : OpenClaim := { program := "ytneiaobhjjbedaa", sum := "f8d86c894d5e00d83b8a4c0ef9afe5f03706817bc4167e0c67618a61ea8b733c", func := "serif/seriflaw09.GstateShifts", spec := "gstateShifts", unfollowed := true, recurses := true, named := ["math/bits.divideError", "math/bits.overflowError"], apart := false, narrowed := true }
def GstateShiftsUptoSaid : Prop := gstateShiftsUptoRow.holds Try.pinned (OpenSpec.upto gstateShiftsSpec)

/-- 'seriflaw09.GstateZones', WHERE WHAT IT READS IS OF BULK AT MOST 1048576: true; the input reads as it did. -/
def gstateZonesUptoRow : OpenClaim := { program := "ytneiaobhjjbedaa", sum := "f8d86c894d5e00d83b8a4c0ef9afe5f03706817bc4167e0c67618a61ea8b733c", func := "serif/seriflaw09.GstateZones", spec := "gstateZones", unfollowed := true, recurses := true, named := ["math/bits.divideError", "math/bits.overflowError"], apart := false, narrowed := true }
def GstateZonesUptoSaid : Prop := gstateZonesUptoRow.holds Try.pinned (OpenSpec.upto gstateZonesSpec)

/-- 'seriflaw15.OtlPlans', WHERE WHAT IT READS IS OF BULK AT MOST 1048576: true; the input reads as it did. -/
def otlPlansUptoRow : OpenClaim := { program := "ytneiaobhjjbedaa", sum := "f8d86c894d5e00d83b8a4c0ef9afe5f03706817bc4167e0c67618a61ea8b733c", func := "serif/seriflaw15.OtlPlans", spec := "otlPlans", unfollowed := true, recurses := true, apart := false, narrowed := true }
def OtlPlansUptoSaid : Prop := otlPlansUptoRow.holds Try.pinned (OpenSpec.upto otlPlansSpec)

end Rows
end Go.Proofs.Ytneiaobhjjbedaa
