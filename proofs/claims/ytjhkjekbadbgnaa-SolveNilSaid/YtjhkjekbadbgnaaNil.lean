/- SolveNil: whatever the two ends are, Root without a function answers ErrArg, no call, +0. -/
import Derived.Test.YtjhkjekbadbgnaaAw
namespace Go.Proofs.Ytjhkjekbadbgnaa
open Go.RowKit

theorem eq_nilFunc2 (w : World) : (binOp .eql 38 .nilFunc .nilFunc).run Try.prog w = .ok (.bool true) w := by
  kernel_rfl

set_option maxHeartbeats 800000 in
theorem root_nil (lo hi : Nat) (w : World) :
    Calls Try.prog 20 #[.nilFunc, .float .f64 lo, .float .f64 hi] w fun e w' => e = .returned (.tuple #[.float .f64 0, .int .i64 0, .int .i64 1]) ∧ Below w.heap.size w w' := by
  have heq := eq_nilFunc2
  go_enter Try.func20, Try.ntmps20
  go_wp2
  exact bodyPost_ret (v := .tuple #[.float .f64 0, .int .i64 0, .int .i64 1]) (by simp [results, Try.results20, go_sem]) rfl ⟨rfl, ((Below.refl _ _).alloc (Nat.le_refl _) _).alloc (by simp) _⟩

theorem same_00 : same 0 0 = true := by decide

set_option maxHeartbeats 800000 in
theorem solveNil_any (lo hi : Nat) (w : World) (_ : F64 lo) (_ : F64 hi) :
    Calls Try.prog 6 #[.float .f64 lo, .float .f64 hi] w fun e w' => e = .returned (.bool true) ∧ Below w.heap.size w w' := by
  go_enter Try.func6, Try.ntmps6
  go_wp2_with fail
  refine (root_nil _ _ _).mono ?_; rintro e w1 ⟨rfl, hb⟩
  go_wp2_with fail
  refine (is_any 0 0 ⟨by decide⟩ ⟨by decide⟩ _).mono ?_; rintro e w' ⟨rfl, rfl⟩
  rw [same_00]
  go_wp2_with fail
  refine (awake_any _).mono ?_; rintro e w2 ⟨rfl, hb2⟩
  have B := hb.trans (hb2.mono hb.size)
  clear hb hb2
  go_wp2_with fail
  go_ret
  exact ⟨rfl, B⟩


end Go.Proofs.Ytjhkjekbadbgnaa
