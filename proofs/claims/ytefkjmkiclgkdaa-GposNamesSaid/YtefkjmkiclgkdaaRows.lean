/-
  No cell of these rows narrows 'for every input' (looked for: loops, veiled, ifaces, maps, wideKeys, modest, calm, conditions, laid).
  DERIVED. THE GIVEN ROWS OF THIS SEAT. 4 by the template 'for every input the law returns true; each argument reads behind the call as it read before'; 0 by the template 'total and deterministic' (their statements: YtefkjmkiclgkdaaTotals.lean).
  GIVEN WITH THE SEED: the statements are not yours to turn. If you find one false, say at which input.
  Laid BY PROGRAM, IN A SANDBOX (cutbox-rows.mjs): the forced cells as the released guide's own fill.sh prints them over the translation d7857030ee10be3e… (all of the seat's roots in one cut). By AI agents, Wed Nov 11 2026. No macro, syntax, notation, axiom, sorry.
-/
import Derived.Test.YtefkjmkiclgkdaaChecked
import GoSem.Claim
import GoSem.ClaimJoined
import GoSem.ClaimMapViews
import Derived.JoinedTies
import Derived.KernelRfl
namespace Go.Proofs.Ytefkjmkiclgkdaa
/- THE CELL 'sum', in the pinned program and in every row, IS THE sha256 OF THE DUMP (.gsa) THAT YtefkjmkiclgkdaaProg.lean LOADS. Nothing in Lean hashes anything: it is a label: what it is worth is what the hold of that sum in a sandbox is worth. -/
noncomputable def Try.pinned : Pinned := { name := "ytefkjmkiclgkdaa", sum := "d7857030ee10be3e469491603d0bb07dac6e5b68ccd6dd1174fcb8b1b762dcde", checked := Try.checked }
namespace Rows
def none {H : Type} : Left H := { results := [], args := [] }

/-- 'seriflaw17.GposNames': WHATEVER THE INPUT: true; the input reads as it did. -/
def gposNamesSpec : ChangeSpec := { name := "gposNames", fn := fun _ => fun
  | [] => { results := [.lit (.bool true)], args := [] }
  | _ => none }
def gposNamesRow : OpenClaim := { program := "ytefkjmkiclgkdaa", sum := "d7857030ee10be3e469491603d0bb07dac6e5b68ccd6dd1174fcb8b1b762dcde", func := "serif/seriflaw17.GposNames", spec := "gposNames", unfollowed := true, recurses := true, apart := false }
def GposNamesSaid : Prop := gposNamesRow.holds Try.pinned (OpenSpec.ofChange gposNamesSpec)

/-- ITS FALSE NEIGHBOUR: 'it returns false'. Refute it at one input. -/
def gposNamesWrong : ChangeSpec := { name := "gposNames", fn := fun _ => fun
  | [] => { results := [.lit (.bool false)], args := [] }
  | _ => none }
def GposNamesWrongFalsely : Prop := gposNamesRow.holds Try.pinned (OpenSpec.ofChange gposNamesWrong)

/-- 'seriflaw16.GsubNames': WHATEVER THE INPUT: true; the input reads as it did. -/
def gsubNamesSpec : ChangeSpec := { name := "gsubNames", fn := fun _ => fun
  | [] => { results := [.lit (.bool true)], args := [] }
  | _ => none }
def gsubNamesRow : OpenClaim := { program := "ytefkjmkiclgkdaa", sum := "d7857030ee10be3e469491603d0bb07dac6e5b68ccd6dd1174fcb8b1b762dcde", func := "serif/seriflaw16.GsubNames", spec := "gsubNames", inPlace := ["slices.overlaps[serif/api.Slot]"], unfollowed := true, recurses := true, apart := false }
def GsubNamesSaid : Prop := gsubNamesRow.holds Try.pinned (OpenSpec.ofChange gsubNamesSpec)

/-- ITS FALSE NEIGHBOUR: 'it returns false'. Refute it at one input. -/
def gsubNamesWrong : ChangeSpec := { name := "gsubNames", fn := fun _ => fun
  | [] => { results := [.lit (.bool false)], args := [] }
  | _ => none }
def GsubNamesWrongFalsely : Prop := gsubNamesRow.holds Try.pinned (OpenSpec.ofChange gsubNamesWrong)

/-- 'seriflaw10.HintNames': WHATEVER THE INPUT: true; the input reads as it did. -/
def hintNamesSpec : ChangeSpec := { name := "hintNames", fn := fun _ => fun
  | [] => { results := [.lit (.bool true)], args := [] }
  | _ => none }
def hintNamesRow : OpenClaim := { program := "ytefkjmkiclgkdaa", sum := "d7857030ee10be3e469491603d0bb07dac6e5b68ccd6dd1174fcb8b1b762dcde", func := "serif/seriflaw10.HintNames", spec := "hintNames", unfollowed := true, recurses := true, named := ["math/bits.divideError", "math/bits.overflowError"], apart := false }
def HintNamesSaid : Prop := hintNamesRow.holds Try.pinned (OpenSpec.ofChange hintNamesSpec)

/-- ITS FALSE NEIGHBOUR: 'it returns false'. Refute it at one input. -/
def hintNamesWrong : ChangeSpec := { name := "hintNames", fn := fun _ => fun
  | [] => { results := [.lit (.bool false)], args := [] }
  | _ => none }
def HintNamesWrongFalsely : Prop := hintNamesRow.holds Try.pinned (OpenSpec.ofChange hintNamesWrong)

/-- 'seriflaw10.HintApart': WHATEVER THE INPUT: true; the input reads as it did. -/
def hintApartSpec : ChangeSpec := { name := "hintApart", fn := fun _ => fun
  | [d1, d2] => { results := [.lit (.bool true)], args := [d1, d2] }
  | _ => none }
def hintApartRow : OpenClaim := { program := "ytefkjmkiclgkdaa", sum := "d7857030ee10be3e469491603d0bb07dac6e5b68ccd6dd1174fcb8b1b762dcde", func := "serif/seriflaw10.HintApart", spec := "hintApart", unfollowed := true, recurses := true, named := ["math/bits.divideError", "math/bits.overflowError"], apart := false }
def HintApartSaid : Prop := hintApartRow.holds Try.pinned (OpenSpec.ofChange hintApartSpec)

/-- ITS FALSE NEIGHBOUR: 'it returns false'. Refute it at one input. -/
def hintApartWrong : ChangeSpec := { name := "hintApart", fn := fun _ => fun
  | [d1, d2] => { results := [.lit (.bool false)], args := [d1, d2] }
  | _ => none }
def HintApartWrongFalsely : Prop := hintApartRow.holds Try.pinned (OpenSpec.ofChange hintApartWrong)

/- THE SECOND FORM. 'bulk': how many values and letters a reading holds, each counted each time it is reached (what is shared counts as often as it is met; a slice's spare places count too). A statement '..UptoSaid' is the law's where the arguments, and the package variables that the reading takes, are together of bulk at most 1048576: NARROWER than '..Said'. Prove '..Said' where nothing that the law and all that it calls make is longer than what came in: it says more and counts as full. Else prove '..UptoSaid'. A law counts once. -/
mutual
def uptoBulk {H : Type} : DataW H → Nat
  | .lit (.string bytes) => bytes.length + 1
  | .lit _ => 1
  | .nil => 1
  | .ptr d => uptoBulk d + 1
  | .slice elems spare => uptoBulkAll elems + uptoBulkAll spare + 1
  | .agg parts => uptoBulkAll parts + 1
  | .iface _ d => uptoBulk d + 1
  | .map entries => uptoBulkEntries entries + 1
  | .held _ => 1
def uptoBulkAll {H : Type} : List (DataW H) → Nat
  | [] => 0
  | d :: r => uptoBulk d + uptoBulkAll r
def uptoBulkEntries {H : Type} : List (Lit × DataW H) → Nat
  | [] => 0
  | x :: r => uptoBulkEntry x + uptoBulkEntries r
def uptoBulkEntry {H : Type} : Lit × DataW H → Nat
  | (.string bytes, d) => bytes.length + uptoBulk d + 1
  | (_, d) => uptoBulk d + 1
 end
def uptoSmall : (H : Type) → List (DataW H) → Bool := fun _ ds => decide (uptoBulkAll ds ≤ 1048576)
def OpenSpec.upto (s : _root_.Go.ChangeSpec) : _root_.Go.OpenSpec := { _root_.Go.OpenSpec.ofChange s with cond := some uptoSmall }

/-- 'seriflaw17.GposNames', WHERE WHAT IT READS IS OF BULK AT MOST 1048576: true; the input reads as it did. -/
def gposNamesUptoRow : OpenClaim := { program := "ytefkjmkiclgkdaa", sum := "d7857030ee10be3e469491603d0bb07dac6e5b68ccd6dd1174fcb8b1b762dcde", func := "serif/seriflaw17.GposNames", spec := "gposNames", unfollowed := true, recurses := true, apart := false, narrowed := true }
def GposNamesUptoSaid : Prop := gposNamesUptoRow.holds Try.pinned (OpenSpec.upto gposNamesSpec)

/-- 'seriflaw16.GsubNames', WHERE WHAT IT READS IS OF BULK AT MOST 1048576: true; the input reads as it did. -/
def gsubNamesUptoRow : OpenClaim := { program := "ytefkjmkiclgkdaa", sum := "d7857030ee10be3e469491603d0bb07dac6e5b68ccd6dd1174fcb8b1b762dcde", func := "serif/seriflaw16.GsubNames", spec := "gsubNames", inPlace := ["slices.overlaps[serif/api.Slot]"], unfollowed := true, recurses := true, apart := false, narrowed := true }
def GsubNamesUptoSaid : Prop := gsubNamesUptoRow.holds Try.pinned (OpenSpec.upto gsubNamesSpec)

/-- 'seriflaw10.HintNames', WHERE WHAT IT READS IS OF BULK AT MOST 1048576: true; the input reads as it did. -/
def hintNamesUptoRow : OpenClaim := { program := "ytefkjmkiclgkdaa", sum := "d7857030ee10be3e469491603d0bb07dac6e5b68ccd6dd1174fcb8b1b762dcde", func := "serif/seriflaw10.HintNames", spec := "hintNames", unfollowed := true, recurses := true, named := ["math/bits.divideError", "math/bits.overflowError"], apart := false, narrowed := true }
def HintNamesUptoSaid : Prop := hintNamesUptoRow.holds Try.pinned (OpenSpec.upto hintNamesSpec)

/-- 'seriflaw10.HintApart', WHERE WHAT IT READS IS OF BULK AT MOST 1048576: true; the input reads as it did. -/
def hintApartUptoRow : OpenClaim := { program := "ytefkjmkiclgkdaa", sum := "d7857030ee10be3e469491603d0bb07dac6e5b68ccd6dd1174fcb8b1b762dcde", func := "serif/seriflaw10.HintApart", spec := "hintApart", unfollowed := true, recurses := true, named := ["math/bits.divideError", "math/bits.overflowError"], apart := false, narrowed := true }
def HintApartUptoSaid : Prop := hintApartUptoRow.holds Try.pinned (OpenSpec.upto hintApartSpec)

end Rows
end Go.Proofs.Ytefkjmkiclgkdaa
