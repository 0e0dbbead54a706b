/- The fields of what is known of a character, read by value. No condition. -/
import Derived.Test.YthkklpegjcnjoaaProg
import Derived.KernelRfl
namespace Go.Proofs.Ythkklpegjcnjoaa

theorem field59_0 (x y z : Int) (W : World) : (Instr.field 59 (.agg #[.int .i64 x, .int .i64 y, .int .i64 z]) 0).run Try.prog W = .ok (.int .i64 x) W := by kernel_rfl
theorem field59_1 (x y z : Int) (W : World) : (Instr.field 59 (.agg #[.int .i64 x, .int .i64 y, .int .i64 z]) 1).run Try.prog W = .ok (.int .i64 y) W := by kernel_rfl
theorem field59_2 (x y z : Int) (W : World) : (Instr.field 59 (.agg #[.int .i64 x, .int .i64 y, .int .i64 z]) 2).run Try.prog W = .ok (.int .i64 z) W := by kernel_rfl

end Go.Proofs.Ythkklpegjcnjoaa
