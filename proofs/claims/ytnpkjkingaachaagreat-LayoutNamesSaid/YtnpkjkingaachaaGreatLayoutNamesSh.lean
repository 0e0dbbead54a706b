/- Short words for the states of the run of LayoutNames: definitions. -/
import Derived.Test.YtnpkjkingaachaaGreatEv25
namespace Go.Proofs.YtnpkjkingaachaaGreat.Pieces
open Go.Ab

abbrev L {α : Type} : T α := .leaf
abbrev E {α : Type} (v : α) : T α := .node .leaf (some v) .leaf
abbrev O {α : Type} (l r : T α) : T α := .node l none r
abbrev N {α : Type} (l : T α) (v : α) (r : T α) : T α := .node l (some v) r
abbrev I (n : Nat) : Value := .int .i64 (.ofNat n)
abbrev J (n : Nat) : Value := .int .i32 (.ofNat n)
abbrev B (n : Nat) : Value := .int .u8 (.ofNat n)
abbrev H (n : Nat) : Value := .int .u16 (.ofNat n)
abbrev W (n : Nat) : Value := .int .u64 (.ofNat n)

end Go.Proofs.YtnpkjkingaachaaGreat.Pieces
