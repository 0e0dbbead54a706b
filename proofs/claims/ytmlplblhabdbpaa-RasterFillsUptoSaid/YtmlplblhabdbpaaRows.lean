/-
  No cell of these rows narrows 'for every input' (looked for: loops, veiled, ifaces, maps, wideKeys, modest, calm, conditions, laid).
  DERIVED. THE GIVEN ROWS OF THIS SEAT. 6 by the template 'for every input the law returns true; each argument reads behind the call as it read before'; 0 by the template 'total and deterministic' (their statements: YtmlplblhabdbpaaTotals.lean).
  GIVEN WITH THE SEED: the statements are not yours to turn. If you find one false, say at which input.
  Laid BY PROGRAM, IN A SANDBOX (cutbox-rows.mjs): the forced cells as the released guide's own fill.sh prints them over the translation f05021d6e7003218… (all of the seat's roots in one cut). By AI agents, Wed Nov 11 2026. No macro, syntax, notation, axiom, sorry.
-/
import Derived.Test.YtmlplblhabdbpaaChecked
import GoSem.Claim
import GoSem.ClaimJoined
import GoSem.ClaimMapViews
import Derived.JoinedTies
import Derived.KernelRfl
namespace Go.Proofs.Ytmlplblhabdbpaa
/- THE CELL 'sum', in the pinned program and in every row, IS THE sha256 OF THE DUMP (.gsa) THAT YtmlplblhabdbpaaProg.lean LOADS. Nothing in Lean hashes anything: it is a label: what it is worth is what the hold of that sum in a sandbox is worth. -/
noncomputable def Try.pinned : Pinned := { name := "ytmlplblhabdbpaa", sum := "f05021d6e70032180280f08c01e0185b950082d01ba2cbd690a3e630b08bdfdb", checked := Try.checked }
namespace Rows
def none {H : Type} : Left H := { results := [], args := [] }

/-- 'seriflaw21.RasterNames': WHATEVER THE INPUT: true; the input reads as it did. -/
def rasterNamesSpec : ChangeSpec := { name := "rasterNames", fn := fun _ => fun
  | [] => { results := [.lit (.bool true)], args := [] }
  | _ => none }
def rasterNamesRow : OpenClaim := { program := "ytmlplblhabdbpaa", sum := "f05021d6e70032180280f08c01e0185b950082d01ba2cbd690a3e630b08bdfdb", func := "serif/seriflaw21.RasterNames", spec := "rasterNames", unfollowed := true, recurses := true, leaving := true, apart := false }
def RasterNamesSaid : Prop := rasterNamesRow.holds Try.pinned (OpenSpec.ofChange rasterNamesSpec)

/-- ITS FALSE NEIGHBOUR: 'it returns false'. Refute it at one input. -/
def rasterNamesWrong : ChangeSpec := { name := "rasterNames", fn := fun _ => fun
  | [] => { results := [.lit (.bool false)], args := [] }
  | _ => none }
def RasterNamesWrongFalsely : Prop := rasterNamesRow.holds Try.pinned (OpenSpec.ofChange rasterNamesWrong)

/-- 'seriflaw21.RasterFills': WHATEVER THE INPUT: true; the input reads as it did. -/
def rasterFillsSpec : ChangeSpec := { name := "rasterFills", fn := fun _ => fun
  | [d] => { results := [.lit (.bool true)], args := [d] }
  | _ => none }
def rasterFillsRow : OpenClaim := { program := "ytmlplblhabdbpaa", sum := "f05021d6e70032180280f08c01e0185b950082d01ba2cbd690a3e630b08bdfdb", func := "serif/seriflaw21.RasterFills", spec := "rasterFills", unfollowed := true, recurses := true, leaving := true, apart := false }
def RasterFillsSaid : Prop := rasterFillsRow.holds Try.pinned (OpenSpec.ofChange rasterFillsSpec)

/-- ITS FALSE NEIGHBOUR: 'it returns false'. Refute it at one input. -/
def rasterFillsWrong : ChangeSpec := { name := "rasterFills", fn := fun _ => fun
  | [d] => { results := [.lit (.bool false)], args := [d] }
  | _ => none }
def RasterFillsWrongFalsely : Prop := rasterFillsRow.holds Try.pinned (OpenSpec.ofChange rasterFillsWrong)

/-- 'seriflaw21.RasterTurns': WHATEVER THE INPUT: true; the input reads as it did. -/
def rasterTurnsSpec : ChangeSpec := { name := "rasterTurns", fn := fun _ => fun
  | [d1, d2, d3] => { results := [.lit (.bool true)], args := [d1, d2, d3] }
  | _ => none }
def rasterTurnsRow : OpenClaim := { program := "ytmlplblhabdbpaa", sum := "f05021d6e70032180280f08c01e0185b950082d01ba2cbd690a3e630b08bdfdb", func := "serif/seriflaw21.RasterTurns", spec := "rasterTurns", unfollowed := true, recurses := true, leaving := true, apart := false }
def RasterTurnsSaid : Prop := rasterTurnsRow.holds Try.pinned (OpenSpec.ofChange rasterTurnsSpec)

/-- ITS FALSE NEIGHBOUR: 'it returns false'. Refute it at one input. -/
def rasterTurnsWrong : ChangeSpec := { name := "rasterTurns", fn := fun _ => fun
  | [d1, d2, d3] => { results := [.lit (.bool false)], args := [d1, d2, d3] }
  | _ => none }
def RasterTurnsWrongFalsely : Prop := rasterTurnsRow.holds Try.pinned (OpenSpec.ofChange rasterTurnsWrong)

/-- 'seriflaw21.RasterCounts': WHATEVER THE INPUT: true; the input reads as it did. -/
def rasterCountsSpec : ChangeSpec := { name := "rasterCounts", fn := fun _ => fun
  | [d1, d2, d3] => { results := [.lit (.bool true)], args := [d1, d2, d3] }
  | _ => none }
def rasterCountsRow : OpenClaim := { program := "ytmlplblhabdbpaa", sum := "f05021d6e70032180280f08c01e0185b950082d01ba2cbd690a3e630b08bdfdb", func := "serif/seriflaw21.RasterCounts", spec := "rasterCounts", unfollowed := true, recurses := true, leaving := true, apart := false }
def RasterCountsSaid : Prop := rasterCountsRow.holds Try.pinned (OpenSpec.ofChange rasterCountsSpec)

/-- ITS FALSE NEIGHBOUR: 'it returns false'. Refute it at one input. -/
def rasterCountsWrong : ChangeSpec := { name := "rasterCounts", fn := fun _ => fun
  | [d1, d2, d3] => { results := [.lit (.bool false)], args := [d1, d2, d3] }
  | _ => none }
def RasterCountsWrongFalsely : Prop := rasterCountsRow.holds Try.pinned (OpenSpec.ofChange rasterCountsWrong)

/-- 'seriflaw21.RasterSquares': WHATEVER THE INPUT: true; the input reads as it did. -/
def rasterSquaresSpec : ChangeSpec := { name := "rasterSquares", fn := fun _ => fun
  | [d1, d2, d3] => { results := [.lit (.bool true)], args := [d1, d2, d3] }
  | _ => none }
def rasterSquaresRow : OpenClaim := { program := "ytmlplblhabdbpaa", sum := "f05021d6e70032180280f08c01e0185b950082d01ba2cbd690a3e630b08bdfdb", func := "serif/seriflaw21.RasterSquares", spec := "rasterSquares", unfollowed := true, recurses := true, leaving := true, apart := false }
def RasterSquaresSaid : Prop := rasterSquaresRow.holds Try.pinned (OpenSpec.ofChange rasterSquaresSpec)

/-- ITS FALSE NEIGHBOUR: 'it returns false'. Refute it at one input. -/
def rasterSquaresWrong : ChangeSpec := { name := "rasterSquares", fn := fun _ => fun
  | [d1, d2, d3] => { results := [.lit (.bool false)], args := [d1, d2, d3] }
  | _ => none }
def RasterSquaresWrongFalsely : Prop := rasterSquaresRow.holds Try.pinned (OpenSpec.ofChange rasterSquaresWrong)

/-- 'seriflaw21.RasterBands': WHATEVER THE INPUT: true; the input reads as it did. -/
def rasterBandsSpec : ChangeSpec := { name := "rasterBands", fn := fun _ => fun
  | [d1, d2] => { results := [.lit (.bool true)], args := [d1, d2] }
  | _ => none }
def rasterBandsRow : OpenClaim := { program := "ytmlplblhabdbpaa", sum := "f05021d6e70032180280f08c01e0185b950082d01ba2cbd690a3e630b08bdfdb", func := "serif/seriflaw21.RasterBands", spec := "rasterBands", inPlace := ["(*sync.WaitGroup).Add", "internal/race.ReleaseMerge", "internal/race.Disable", "internal/race.Enable", "internal/synctest.IsInBubble", "internal/synctest.Associate[sync.WaitGroup]", "sync.fatal", "sync/atomic.OrUint64", "sync/atomic.AddUint64", "internal/race.Read", "sync/atomic.LoadUint64", "sync/atomic.StoreUint64", "internal/synctest.Disassociate[sync.WaitGroup]", "sync.runtime_Semrelease", "(*sync.WaitGroup).Done", "(*sync.WaitGroup).Wait", "internal/race.Acquire", "internal/synctest.IsAssociated[sync.WaitGroup]", "sync/atomic.CompareAndSwapUint64", "internal/race.Write", "sync.runtime_SemacquireWaitGroup"], unfollowed := true, recurses := true, leaving := true, apart := false }
def RasterBandsSaid : Prop := rasterBandsRow.holds Try.pinned (OpenSpec.ofChange rasterBandsSpec)

/-- ITS FALSE NEIGHBOUR: 'it returns false'. Refute it at one input. -/
def rasterBandsWrong : ChangeSpec := { name := "rasterBands", fn := fun _ => fun
  | [d1, d2] => { results := [.lit (.bool false)], args := [d1, d2] }
  | _ => none }
def RasterBandsWrongFalsely : Prop := rasterBandsRow.holds Try.pinned (OpenSpec.ofChange rasterBandsWrong)

/- THE SECOND FORM. 'bulk': how many values and letters a reading holds, each counted each time it is reached (what is shared counts as often as it is met; a slice's spare places count too). A statement '..UptoSaid' is the law's where the arguments, and the package variables that the reading takes, are together of bulk at most 1048576: NARROWER than '..Said'. Prove '..Said' where nothing that the law and all that it calls make is longer than what came in: it says more and counts as full. Else prove '..UptoSaid'. A law counts once. -/
mutual
def uptoBulk {H : Type} : DataW H → Nat
  | .lit (.string bytes) => bytes.length + 1
  | .lit _ => 1
  | .nil => 1
  | .ptr d => uptoBulk d + 1
  | .slice elems spare => uptoBulkAll elems + uptoBulkAll spare + 1
  | .agg parts => uptoBulkAll parts + 1
  | .iface _ d => uptoBulk d + 1
  | .map entries => uptoBulkEntries entries + 1
  | .held _ => 1
def uptoBulkAll {H : Type} : List (DataW H) → Nat
  | [] => 0
  | d :: r => uptoBulk d + uptoBulkAll r
def uptoBulkEntries {H : Type} : List (Lit × DataW H) → Nat
  | [] => 0
  | x :: r => uptoBulkEntry x + uptoBulkEntries r
def uptoBulkEntry {H : Type} : Lit × DataW H → Nat
  | (.string bytes, d) => bytes.length + uptoBulk d + 1
  | (_, d) => uptoBulk d + 1
 end
def uptoSmall : (H : Type) → List (DataW H) → Bool := fun _ ds => decide (uptoBulkAll ds ≤ 1048576)
def OpenSpec.upto (s : _root_.Go.ChangeSpec) : _root_.Go.OpenSpec := { _root_.Go.OpenSpec.ofChange s with cond := some uptoSmall }

/-- 'seriflaw21.RasterNames', WHERE WHAT IT READS IS OF BULK AT MOST 1048576: true; the input reads as it did. -/
def rasterNamesUptoRow : OpenClaim := { program := "ytmlplblhabdbpaa", sum := "f05021d6e70032180280f08c01e0185b950082d01ba2cbd690a3e630b08bdfdb", func := "serif/seriflaw21.RasterNames", spec := "rasterNames", unfollowed := true, recurses := true, leaving := true, apart := false, narrowed := true }
def RasterNamesUptoSaid : Prop := rasterNamesUptoRow.holds Try.pinned (OpenSpec.upto rasterNamesSpec)

/-- 'seriflaw21.RasterFills', WHERE WHAT IT READS IS OF BULK AT MOST 1048576: true; the input reads as it did. -/
def rasterFillsUptoRow : OpenClaim := { program := "ytmlplblhabdbpaa", sum := "f05021d6e70032180280f08c01e0185b950082d01ba2cbd690a3e630b08bdfdb", func := "serif/seriflaw21.RasterFills", spec := "rasterFills", unfollowed := true, recurses := true, leaving := true, apart := false, narrowed := true }
def RasterFillsUptoSaid : Prop := rasterFillsUptoRow.holds Try.pinned (OpenSpec.upto rasterFillsSpec)

/-- 'seriflaw21.RasterTurns', WHERE WHAT IT READS IS OF BULK AT MOST 1048576: true; the input reads as it did. -/
def rasterTurnsUptoRow : OpenClaim := { program := "ytmlplblhabdbpaa", sum := "f05021d6e70032180280f08c01e0185b950082d01ba2cbd690a3e630b08bdfdb", func := "serif/seriflaw21.RasterTurns", spec := "rasterTurns", unfollowed := true, recurses := true, leaving := true, apart := false, narrowed := true }
def RasterTurnsUptoSaid : Prop := rasterTurnsUptoRow.holds Try.pinned (OpenSpec.upto rasterTurnsSpec)

/-- 'seriflaw21.RasterCounts', WHERE WHAT IT READS IS OF BULK AT MOST 1048576: true; the input reads as it did. -/
def rasterCountsUptoRow : OpenClaim := { program := "ytmlplblhabdbpaa", sum := "f05021d6e70032180280f08c01e0185b950082d01ba2cbd690a3e630b08bdfdb", func := "serif/seriflaw21.RasterCounts", spec := "rasterCounts", unfollowed := true, recurses := true, leaving := true, apart := false, narrowed := true }
def RasterCountsUptoSaid : Prop := rasterCountsUptoRow.holds Try.pinned (OpenSpec.upto rasterCountsSpec)

/-- 'seriflaw21.RasterSquares', WHERE WHAT IT READS IS OF BULK AT MOST 1048576: true; the input reads as it did. -/
def rasterSquaresUptoRow : OpenClaim := { program := "ytmlplblhabdbpaa", sum := "f05021d6e70032180280f08c01e0185b950082d01ba2cbd690a3e630b08bdfdb", func := "serif/seriflaw21.RasterSquares", spec := "rasterSquares", unfollowed := true, recurses := true, leaving := true, apart := false, narrowed := true }
def RasterSquaresUptoSaid : Prop := rasterSquaresUptoRow.holds Try.pinned (OpenSpec.upto rasterSquaresSpec)

/-- 'seriflaw21.RasterBands', WHERE WHAT IT READS IS OF BULK AT MOST 1048576: true; the input reads as it did. -/
def rasterBandsUptoRow : OpenClaim := { program := "ytmlplblhabdbpaa", sum := "f05021d6e70032180280f08c01e0185b950082d01ba2cbd690a3e630b08bdfdb", func := "serif/seriflaw21.RasterBands", spec := "rasterBands", inPlace := ["(*sync.WaitGroup).Add", "internal/race.ReleaseMerge", "internal/race.Disable", "internal/race.Enable", "internal/synctest.IsInBubble", "internal/synctest.Associate[sync.WaitGroup]", "sync.fatal", "sync/atomic.OrUint64", "sync/atomic.AddUint64", "internal/race.Read", "sync/atomic.LoadUint64", "sync/atomic.StoreUint64", "internal/synctest.Disassociate[sync.WaitGroup]", "sync.runtime_Semrelease", "(*sync.WaitGroup).Done", "(*sync.WaitGroup).Wait", "internal/race.Acquire", "internal/synctest.IsAssociated[sync.WaitGroup]", "sync/atomic.CompareAndSwapUint64", "internal/race.Write", "sync.runtime_SemacquireWaitGroup"], unfollowed := true, recurses := true, leaving := true, apart := false, narrowed := true }
def RasterBandsUptoSaid : Prop := rasterBandsUptoRow.holds Try.pinned (OpenSpec.upto rasterBandsSpec)

end Rows
end Go.Proofs.Ytmlplblhabdbpaa
