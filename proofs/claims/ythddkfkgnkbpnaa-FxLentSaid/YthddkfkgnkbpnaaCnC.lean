/- The comparison of two pairs that are the same (77, 0, 0). -/
import Derived.Test.YthddkfkgnkbpnaaM14
import Derived.Laws.StructEq
namespace Go.Proofs.Ythddkfkgnkbpnaa
open Go.RowKit
set_option linter.unusedSimpArgs false
set_option linter.unusedVariables false

theorem eq77 (w : World) : (Op.equalIn 10000 40 (.agg #[.int .i64 77, .int .i64 0, .float .f64 0]) (.agg #[.int .i64 77, .int .i64 0, .float .f64 0])).run Try.prog w = .ok true w := by kernel_rfl
theorem neq77 (w : World) : (binOp .neq 40 (.agg #[.int .i64 77, .int .i64 0, .float .f64 0]) (.agg #[.int .i64 77, .int .i64 0, .float .f64 0])).run Try.prog w = .ok (.bool false) w := by
  rw [run_neq_struct, eq77]; rfl
theorem guard77 (x y : Operand) (w : World) : (eqGuard .neq 40 x y (.agg #[.int .i64 77, .int .i64 0, .float .f64 0]) (.agg #[.int .i64 77, .int .i64 0, .float .f64 0])).run Try.prog w = .ok () w :=
  run_eqGuard_agg w .neq _ x y _ _ (by kernel_rfl)

end Go.Proofs.Ythddkfkgnkbpnaa
