/-
  No cell of these rows narrows 'for every input' (looked for: loops, veiled, ifaces, maps, wideKeys, modest, calm, conditions, laid).
  DERIVED. THE GIVEN ROWS OF THIS SEAT. 10 by the template 'for every input the law returns true; each argument reads behind the call as it read before'; 0 by the template 'total and deterministic' (their statements: YthkklpegjcnjoaaTotals.lean).
  GIVEN WITH THE SEED: the statements are not yours to turn. If you find one false, say at which input.
  Laid BY PROGRAM, IN A SANDBOX (cutbox-rows.mjs): the forced cells as the released guide's own fill.sh prints them over the translation be66de64eb6c395d… (all of the seat's roots in one cut). By AI agents, Wed Nov 11 2026. No macro, syntax, notation, axiom, sorry.
-/
import Derived.Test.YthkklpegjcnjoaaChecked
import GoSem.Claim
import GoSem.ClaimJoined
import GoSem.ClaimMapViews
import Derived.JoinedTies
import Derived.KernelRfl
namespace Go.Proofs.Ythkklpegjcnjoaa
/- THE CELL 'sum', in the pinned program and in every row, IS THE sha256 OF THE DUMP (.gsa) THAT YthkklpegjcnjoaaProg.lean LOADS. Nothing in Lean hashes anything: it is a label: what it is worth is what the hold of that sum in a sandbox is worth. -/
noncomputable def Try.pinned : Pinned := { name := "ythkklpegjcnjoaa", sum := "be66de64eb6c395d2db5b6e4a8ebd3fc9e938838228a8f49f179d04f0d6d6e31", checked := Try.checked }
namespace Rows
def none {H : Type} : Left H := { results := [], args := [] }

/-- 'seriflaw13.BidiNames': WHATEVER THE INPUT: true; the input reads as it did. -/
def bidiNamesSpec : ChangeSpec := { name := "bidiNames", fn := fun _ => fun
  | [] => { results := [.lit (.bool true)], args := [] }
  | _ => none }
def bidiNamesRow : OpenClaim := { program := "ythkklpegjcnjoaa", sum := "be66de64eb6c395d2db5b6e4a8ebd3fc9e938838228a8f49f179d04f0d6d6e31", func := "serif/seriflaw13.BidiNames", spec := "bidiNames", unfollowed := true, recurses := true, apart := false }
def BidiNamesSaid : Prop := bidiNamesRow.holds Try.pinned (OpenSpec.ofChange bidiNamesSpec)

/-- ITS FALSE NEIGHBOUR: 'it returns false'. Refute it at one input. -/
def bidiNamesWrong : ChangeSpec := { name := "bidiNames", fn := fun _ => fun
  | [] => { results := [.lit (.bool false)], args := [] }
  | _ => none }
def BidiNamesWrongFalsely : Prop := bidiNamesRow.holds Try.pinned (OpenSpec.ofChange bidiNamesWrong)

/-- 'seriflaw13.BidiOrders': WHATEVER THE INPUT: true; the input reads as it did. -/
def bidiOrdersSpec : ChangeSpec := { name := "bidiOrders", fn := fun _ => fun
  | [d] => { results := [.lit (.bool true)], args := [d] }
  | _ => none }
def bidiOrdersRow : OpenClaim := { program := "ythkklpegjcnjoaa", sum := "be66de64eb6c395d2db5b6e4a8ebd3fc9e938838228a8f49f179d04f0d6d6e31", func := "serif/seriflaw13.BidiOrders", spec := "bidiOrders", unfollowed := true, recurses := true, apart := false }
def BidiOrdersSaid : Prop := bidiOrdersRow.holds Try.pinned (OpenSpec.ofChange bidiOrdersSpec)

/-- ITS FALSE NEIGHBOUR: 'it returns false'. Refute it at one input. -/
def bidiOrdersWrong : ChangeSpec := { name := "bidiOrders", fn := fun _ => fun
  | [d] => { results := [.lit (.bool false)], args := [d] }
  | _ => none }
def BidiOrdersWrongFalsely : Prop := bidiOrdersRow.holds Try.pinned (OpenSpec.ofChange bidiOrdersWrong)

/-- 'seriflaw13.BidiParts': WHATEVER THE INPUT: true; the input reads as it did. -/
def bidiPartsSpec : ChangeSpec := { name := "bidiParts", fn := fun _ => fun
  | [d1, d2, d3] => { results := [.lit (.bool true)], args := [d1, d2, d3] }
  | _ => none }
def bidiPartsRow : OpenClaim := { program := "ythkklpegjcnjoaa", sum := "be66de64eb6c395d2db5b6e4a8ebd3fc9e938838228a8f49f179d04f0d6d6e31", func := "serif/seriflaw13.BidiParts", spec := "bidiParts", unfollowed := true, recurses := true, apart := false }
def BidiPartsSaid : Prop := bidiPartsRow.holds Try.pinned (OpenSpec.ofChange bidiPartsSpec)

/-- ITS FALSE NEIGHBOUR: 'it returns false'. Refute it at one input. -/
def bidiPartsWrong : ChangeSpec := { name := "bidiParts", fn := fun _ => fun
  | [d1, d2, d3] => { results := [.lit (.bool false)], args := [d1, d2, d3] }
  | _ => none }
def BidiPartsWrongFalsely : Prop := bidiPartsRow.holds Try.pinned (OpenSpec.ofChange bidiPartsWrong)

/-- 'seriflaw13.BidiIsolates': WHATEVER THE INPUT: true; the input reads as it did. -/
def bidiIsolatesSpec : ChangeSpec := { name := "bidiIsolates", fn := fun _ => fun
  | [d1, d2] => { results := [.lit (.bool true)], args := [d1, d2] }
  | _ => none }
def bidiIsolatesRow : OpenClaim := { program := "ythkklpegjcnjoaa", sum := "be66de64eb6c395d2db5b6e4a8ebd3fc9e938838228a8f49f179d04f0d6d6e31", func := "serif/seriflaw13.BidiIsolates", spec := "bidiIsolates", unfollowed := true, recurses := true, apart := false }
def BidiIsolatesSaid : Prop := bidiIsolatesRow.holds Try.pinned (OpenSpec.ofChange bidiIsolatesSpec)

/-- ITS FALSE NEIGHBOUR: 'it returns false'. Refute it at one input. -/
def bidiIsolatesWrong : ChangeSpec := { name := "bidiIsolates", fn := fun _ => fun
  | [d1, d2] => { results := [.lit (.bool false)], args := [d1, d2] }
  | _ => none }
def BidiIsolatesWrongFalsely : Prop := bidiIsolatesRow.holds Try.pinned (OpenSpec.ofChange bidiIsolatesWrong)

/-- 'seriflaw13.BidiBases': WHATEVER THE INPUT: true; the input reads as it did. -/
def bidiBasesSpec : ChangeSpec := { name := "bidiBases", fn := fun _ => fun
  | [d] => { results := [.lit (.bool true)], args := [d] }
  | _ => none }
def bidiBasesRow : OpenClaim := { program := "ythkklpegjcnjoaa", sum := "be66de64eb6c395d2db5b6e4a8ebd3fc9e938838228a8f49f179d04f0d6d6e31", func := "serif/seriflaw13.BidiBases", spec := "bidiBases", unfollowed := true, recurses := true, apart := false }
def BidiBasesSaid : Prop := bidiBasesRow.holds Try.pinned (OpenSpec.ofChange bidiBasesSpec)

/-- ITS FALSE NEIGHBOUR: 'it returns false'. Refute it at one input. -/
def bidiBasesWrong : ChangeSpec := { name := "bidiBases", fn := fun _ => fun
  | [d] => { results := [.lit (.bool false)], args := [d] }
  | _ => none }
def BidiBasesWrongFalsely : Prop := bidiBasesRow.holds Try.pinned (OpenSpec.ofChange bidiBasesWrong)

/-- 'seriflaw14.RunsParagraphs': WHATEVER THE INPUT: true; the input reads as it did. -/
def runsParagraphsSpec : ChangeSpec := { name := "runsParagraphs", fn := fun _ => fun
  | [d] => { results := [.lit (.bool true)], args := [d] }
  | _ => none }
def runsParagraphsRow : OpenClaim := { program := "ythkklpegjcnjoaa", sum := "be66de64eb6c395d2db5b6e4a8ebd3fc9e938838228a8f49f179d04f0d6d6e31", func := "serif/seriflaw14.RunsParagraphs", spec := "runsParagraphs", unfollowed := true, recurses := true, apart := false }
def RunsParagraphsSaid : Prop := runsParagraphsRow.holds Try.pinned (OpenSpec.ofChange runsParagraphsSpec)

/-- ITS FALSE NEIGHBOUR: 'it returns false'. Refute it at one input. -/
def runsParagraphsWrong : ChangeSpec := { name := "runsParagraphs", fn := fun _ => fun
  | [d] => { results := [.lit (.bool false)], args := [d] }
  | _ => none }
def RunsParagraphsWrongFalsely : Prop := runsParagraphsRow.holds Try.pinned (OpenSpec.ofChange runsParagraphsWrong)

/-- 'seriflaw14.RunsScripts': WHATEVER THE INPUT: true; the input reads as it did. -/
def runsScriptsSpec : ChangeSpec := { name := "runsScripts", fn := fun _ => fun
  | [d] => { results := [.lit (.bool true)], args := [d] }
  | _ => none }
def runsScriptsRow : OpenClaim := { program := "ythkklpegjcnjoaa", sum := "be66de64eb6c395d2db5b6e4a8ebd3fc9e938838228a8f49f179d04f0d6d6e31", func := "serif/seriflaw14.RunsScripts", spec := "runsScripts", unfollowed := true, recurses := true, apart := false }
def RunsScriptsSaid : Prop := runsScriptsRow.holds Try.pinned (OpenSpec.ofChange runsScriptsSpec)

/-- ITS FALSE NEIGHBOUR: 'it returns false'. Refute it at one input. -/
def runsScriptsWrong : ChangeSpec := { name := "runsScripts", fn := fun _ => fun
  | [d] => { results := [.lit (.bool false)], args := [d] }
  | _ => none }
def RunsScriptsWrongFalsely : Prop := runsScriptsRow.holds Try.pinned (OpenSpec.ofChange runsScriptsWrong)

/-- 'seriflaw14.RunsSplits': WHATEVER THE INPUT: true; the input reads as it did. -/
def runsSplitsSpec : ChangeSpec := { name := "runsSplits", fn := fun _ => fun
  | [d1, d2] => { results := [.lit (.bool true)], args := [d1, d2] }
  | _ => none }
def runsSplitsRow : OpenClaim := { program := "ythkklpegjcnjoaa", sum := "be66de64eb6c395d2db5b6e4a8ebd3fc9e938838228a8f49f179d04f0d6d6e31", func := "serif/seriflaw14.RunsSplits", spec := "runsSplits", unfollowed := true, recurses := true, apart := false }
def RunsSplitsSaid : Prop := runsSplitsRow.holds Try.pinned (OpenSpec.ofChange runsSplitsSpec)

/-- ITS FALSE NEIGHBOUR: 'it returns false'. Refute it at one input. -/
def runsSplitsWrong : ChangeSpec := { name := "runsSplits", fn := fun _ => fun
  | [d1, d2] => { results := [.lit (.bool false)], args := [d1, d2] }
  | _ => none }
def RunsSplitsWrongFalsely : Prop := runsSplitsRow.holds Try.pinned (OpenSpec.ofChange runsSplitsWrong)

/-- 'seriflaw14.RunsCover': WHATEVER THE INPUT: true; the input reads as it did. -/
def runsCoverSpec : ChangeSpec := { name := "runsCover", fn := fun _ => fun
  | [d1, d2] => { results := [.lit (.bool true)], args := [d1, d2] }
  | _ => none }
def runsCoverRow : OpenClaim := { program := "ythkklpegjcnjoaa", sum := "be66de64eb6c395d2db5b6e4a8ebd3fc9e938838228a8f49f179d04f0d6d6e31", func := "serif/seriflaw14.RunsCover", spec := "runsCover", unfollowed := true, recurses := true, apart := false }
def RunsCoverSaid : Prop := runsCoverRow.holds Try.pinned (OpenSpec.ofChange runsCoverSpec)

/-- ITS FALSE NEIGHBOUR: 'it returns false'. Refute it at one input. -/
def runsCoverWrong : ChangeSpec := { name := "runsCover", fn := fun _ => fun
  | [d1, d2] => { results := [.lit (.bool false)], args := [d1, d2] }
  | _ => none }
def RunsCoverWrongFalsely : Prop := runsCoverRow.holds Try.pinned (OpenSpec.ofChange runsCoverWrong)

/-- 'seriflaw14.RunsVisual': WHATEVER THE INPUT: true; the input reads as it did. -/
def runsVisualSpec : ChangeSpec := { name := "runsVisual", fn := fun _ => fun
  | [d1, d2] => { results := [.lit (.bool true)], args := [d1, d2] }
  | _ => none }
def runsVisualRow : OpenClaim := { program := "ythkklpegjcnjoaa", sum := "be66de64eb6c395d2db5b6e4a8ebd3fc9e938838228a8f49f179d04f0d6d6e31", func := "serif/seriflaw14.RunsVisual", spec := "runsVisual", unfollowed := true, recurses := true, apart := false }
def RunsVisualSaid : Prop := runsVisualRow.holds Try.pinned (OpenSpec.ofChange runsVisualSpec)

/-- ITS FALSE NEIGHBOUR: 'it returns false'. Refute it at one input. -/
def runsVisualWrong : ChangeSpec := { name := "runsVisual", fn := fun _ => fun
  | [d1, d2] => { results := [.lit (.bool false)], args := [d1, d2] }
  | _ => none }
def RunsVisualWrongFalsely : Prop := runsVisualRow.holds Try.pinned (OpenSpec.ofChange runsVisualWrong)

/- THE SECOND FORM. 'bulk': how many values and letters a reading holds, each counted each time it is reached (what is shared counts as often as it is met; a slice's spare places count too). A statement '..UptoSaid' is the law's where the arguments, and the package variables that the reading takes, are together of bulk at most 1048576: NARROWER than '..Said'. Prove '..Said' where nothing that the law and all that it calls make is longer than what came in: it says more and counts as full. Else prove '..UptoSaid'. A law counts once. -/
mutual
def uptoBulk {H : Type} : DataW H → Nat
  | .lit (.string bytes) => bytes.length + 1
  | .lit _ => 1
  | .nil => 1
  | .ptr d => uptoBulk d + 1
  | .slice elems spare => uptoBulkAll elems + uptoBulkAll spare + 1
  | .agg parts => uptoBulkAll parts + 1
  | .iface _ d => uptoBulk d + 1
  | .map entries => uptoBulkEntries entries + 1
  | .held _ => 1
def uptoBulkAll {H : Type} : List (DataW H) → Nat
  | [] => 0
  | d :: r => uptoBulk d + uptoBulkAll r
def uptoBulkEntries {H : Type} : List (Lit × DataW H) → Nat
  | [] => 0
  | x :: r => uptoBulkEntry x + uptoBulkEntries r
def uptoBulkEntry {H : Type} : Lit × DataW H → Nat
  | (.string bytes, d) => bytes.length + uptoBulk d + 1
  | (_, d) => uptoBulk d + 1
 end
def uptoSmall : (H : Type) → List (DataW H) → Bool := fun _ ds => decide (uptoBulkAll ds ≤ 1048576)
def OpenSpec.upto (s : _root_.Go.ChangeSpec) : _root_.Go.OpenSpec := { _root_.Go.OpenSpec.ofChange s with cond := some uptoSmall }

/-- 'seriflaw13.BidiNames', WHERE WHAT IT READS IS OF BULK AT MOST 1048576: true; the input reads as it did. -/
def bidiNamesUptoRow : OpenClaim := { program := "ythkklpegjcnjoaa", sum := "be66de64eb6c395d2db5b6e4a8ebd3fc9e938838228a8f49f179d04f0d6d6e31", func := "serif/seriflaw13.BidiNames", spec := "bidiNames", unfollowed := true, recurses := true, apart := false, narrowed := true }
def BidiNamesUptoSaid : Prop := bidiNamesUptoRow.holds Try.pinned (OpenSpec.upto bidiNamesSpec)

/-- 'seriflaw13.BidiOrders', WHERE WHAT IT READS IS OF BULK AT MOST 1048576: true; the input reads as it did. -/
def bidiOrdersUptoRow : OpenClaim := { program := "ythkklpegjcnjoaa", sum := "be66de64eb6c395d2db5b6e4a8ebd3fc9e938838228a8f49f179d04f0d6d6e31", func := "serif/seriflaw13.BidiOrders", spec := "bidiOrders", unfollowed := true, recurses := true, apart := false, narrowed := true }
def BidiOrdersUptoSaid : Prop := bidiOrdersUptoRow.holds Try.pinned (OpenSpec.upto bidiOrdersSpec)

/-- 'seriflaw13.BidiParts', WHERE WHAT IT READS IS OF BULK AT MOST 1048576: true; the input reads as it did. -/
def bidiPartsUptoRow : OpenClaim := { program := "ythkklpegjcnjoaa", sum := "be66de64eb6c395d2db5b6e4a8ebd3fc9e938838228a8f49f179d04f0d6d6e31", func := "serif/seriflaw13.BidiParts", spec := "bidiParts", unfollowed := true, recurses := true, apart := false, narrowed := true }
def BidiPartsUptoSaid : Prop := bidiPartsUptoRow.holds Try.pinned (OpenSpec.upto bidiPartsSpec)

/-- 'seriflaw13.BidiIsolates', WHERE WHAT IT READS IS OF BULK AT MOST 1048576: true; the input reads as it did. -/
def bidiIsolatesUptoRow : OpenClaim := { program := "ythkklpegjcnjoaa", sum := "be66de64eb6c395d2db5b6e4a8ebd3fc9e938838228a8f49f179d04f0d6d6e31", func := "serif/seriflaw13.BidiIsolates", spec := "bidiIsolates", unfollowed := true, recurses := true, apart := false, narrowed := true }
def BidiIsolatesUptoSaid : Prop := bidiIsolatesUptoRow.holds Try.pinned (OpenSpec.upto bidiIsolatesSpec)

/-- 'seriflaw13.BidiBases', WHERE WHAT IT READS IS OF BULK AT MOST 1048576: true; the input reads as it did. -/
def bidiBasesUptoRow : OpenClaim := { program := "ythkklpegjcnjoaa", sum := "be66de64eb6c395d2db5b6e4a8ebd3fc9e938838228a8f49f179d04f0d6d6e31", func := "serif/seriflaw13.BidiBases", spec := "bidiBases", unfollowed := true, recurses := true, apart := false, narrowed := true }
def BidiBasesUptoSaid : Prop := bidiBasesUptoRow.holds Try.pinned (OpenSpec.upto bidiBasesSpec)

/-- 'seriflaw14.RunsParagraphs', WHERE WHAT IT READS IS OF BULK AT MOST 1048576: true; the input reads as it did. -/
def runsParagraphsUptoRow : OpenClaim := { program := "ythkklpegjcnjoaa", sum := "be66de64eb6c395d2db5b6e4a8ebd3fc9e938838228a8f49f179d04f0d6d6e31", func := "serif/seriflaw14.RunsParagraphs", spec := "runsParagraphs", unfollowed := true, recurses := true, apart := false, narrowed := true }
def RunsParagraphsUptoSaid : Prop := runsParagraphsUptoRow.holds Try.pinned (OpenSpec.upto runsParagraphsSpec)

/-- 'seriflaw14.RunsScripts', WHERE WHAT IT READS IS OF BULK AT MOST 1048576: true; the input reads as it did. -/
def runsScriptsUptoRow : OpenClaim := { program := "ythkklpegjcnjoaa", sum := "be66de64eb6c395d2db5b6e4a8ebd3fc9e938838228a8f49f179d04f0d6d6e31", func := "serif/seriflaw14.RunsScripts", spec := "runsScripts", unfollowed := true, recurses := true, apart := false, narrowed := true }
def RunsScriptsUptoSaid : Prop := runsScriptsUptoRow.holds Try.pinned (OpenSpec.upto runsScriptsSpec)

/-- 'seriflaw14.RunsSplits', WHERE WHAT IT READS IS OF BULK AT MOST 1048576: true; the input reads as it did. -/
def runsSplitsUptoRow : OpenClaim := { program := "ythkklpegjcnjoaa", sum := "be66de64eb6c395d2db5b6e4a8ebd3fc9e938838228a8f49f179d04f0d6d6e31", func := "serif/seriflaw14.RunsSplits", spec := "runsSplits", unfollowed := true, recurses := true, apart := false, narrowed := true }
def RunsSplitsUptoSaid : Prop := runsSplitsUptoRow.holds Try.pinned (OpenSpec.upto runsSplitsSpec)

/-- 'seriflaw14.RunsCover', WHERE WHAT IT READS IS OF BULK AT MOST 1048576: true; the input reads as it did. -/
def runsCoverUptoRow : OpenClaim := { program := "ythkklpegjcnjoaa", sum := "be66de64eb6c395d2db5b6e4a8ebd3fc9e938838228a8f49f179d04f0d6d6e31", func := "serif/seriflaw14.RunsCover", spec := "runsCover", unfollowed := true, recurses := true, apart := false, narrowed := true }
def RunsCoverUptoSaid : Prop := runsCoverUptoRow.holds Try.pinned (OpenSpec.upto runsCoverSpec)

/-- 'seriflaw14.RunsVisual', WHERE WHAT IT READS IS OF BULK AT MOST 1048576: true; the input reads as it did. -/
def runsVisualUptoRow : OpenClaim := { program := "ythkklpegjcnjoaa", sum := "be66de64eb6c395d2db5b6e4a8ebd3fc9e938838228a8f49f179d04f0d6d6e31", func := "serif/seriflaw14.RunsVisual", spec := "runsVisual", unfollowed := true, recurses := true, apart := false, narrowed := true }
def RunsVisualUptoSaid : Prop := runsVisualUptoRow.holds Try.pinned (OpenSpec.upto runsVisualSpec)

end Rows
end Go.Proofs.Ythkklpegjcnjoaa
