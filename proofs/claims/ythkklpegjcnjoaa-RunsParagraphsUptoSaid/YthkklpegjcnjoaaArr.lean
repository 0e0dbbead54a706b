/- Two arrays of two whole numbers are equal just where both numbers are. No condition. -/
import Derived.Test.YthkklpegjcnjoaaLook2
namespace Go.Proofs.Ythkklpegjcnjoaa
open Go.RowKit
set_option linter.unusedSimpArgs false

theorem part3 (w : World) (cs : Array Value) (k : Nat) (v : Int) (h : cs[k]? = some (.int .i64 v)) : (part 3 cs k).run Try.prog w = .ok (.int .i64 v) w := by
  go_simp

theorem eq3 (d : Nat) (w : World) (x y : Int) : (Op.equalIn (d + 1) 3 (.int .i64 x) (.int .i64 y)).run Try.prog w = .ok (x == y) w := by
  have h := run_underlying (P := Try.prog) Try.underlying3
  simp [Op.equalIn, h]

theorem arr39 (d : Nat) (w : World) (x0 y0 : Int) (x1 y1 : Int) :
    (Op.equalIn (d + 2) 39 (.agg #[.int .i64 x0, .int .i64 x1]) (.agg #[.int .i64 y0, .int .i64 y1])).run Try.prog w = .ok (x0 == y0 && (x1 == y1)) w := by
  have h := run_underlying (P := Try.prog) Try.underlying39
  have hs : ∀ w : World, (sizeOf 3).run Try.prog w = .ok 1 w := fun w => Try.sizeOf3 w
  have p0 := fun w => part3 w #[.int .i64 x0, .int .i64 x1] 0 x0 rfl
  have p1 := fun w => part3 w #[.int .i64 x0, .int .i64 x1] 1 x1 rfl
  have q0 := fun w => part3 w #[.int .i64 y0, .int .i64 y1] 0 y0 rfl
  have q1 := fun w => part3 w #[.int .i64 y0, .int .i64 y1] 1 y1 rfl
  rw [Op.equalIn]
  simp only [Sem.run_bind, h, Result.andThen_ok, hs, Std.Legacy.Range.forIn_eq_forIn_range', Std.Legacy.Range.size, Nat.sub_zero, Nat.add_sub_cancel, Nat.div_one, List.range'_succ, List.range'_zero, List.forIn_cons, List.forIn_nil, Nat.zero_mul, Nat.zero_add, Nat.one_mul, p0, p1, q0, q1, eq3]
  by_cases e0 : x0 = y0
  · subst e0
    by_cases e1 : x1 = y1
    · subst e1
      simp [p1, q1, eq3]
    · have f1 : (x1 == y1) = false := by simpa using e1
      simp [p1, q1, eq3, f1]
  · have f0 : (x0 == y0) = false := by simpa using e0
    simp [f0]
end Go.Proofs.Ythkklpegjcnjoaa
