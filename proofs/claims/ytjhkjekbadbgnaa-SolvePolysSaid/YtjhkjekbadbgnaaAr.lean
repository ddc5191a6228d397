/- The walks of the reference's IsInf, Flip, Add. -/
import Derived.Test.YtjhkjekbadbgnaaRo2
namespace Go.Proofs.Ytjhkjekbadbgnaa
open Go.RowKit
set_option linter.unusedSimpArgs false
set_option linter.unusedVariables false

/-- Is it an infinity? -/
def inf (x : Nat) : Bool := mg x == 9218868437227405312
/-- The other sign. -/
def flip64 (x : Nat) : Nat := if ng x then mg x else mg x + 9223372036854775808

theorem rIsInf_any (x : Nat) (hx : F64 x) (w : World) :
    Calls Try.prog 70 #[.int .u64 x] w fun e w' => e = .returned (.bool (inf x)) ∧ w = w' := by
  have hb := bits_mg x hx
  have H : Hd (((mg x : Int) == 9218868437227405312) = inf x) := ⟨by unfold inf; rw [Bool.eq_iff_iff, beq_iff_eq, beq_iff_eq]; omega⟩
  generalize mg x = m at *
  by_cases h : (m : Int) = 9218868437227405312
  · have d : ((m : Int) == 9218868437227405312) = true := by rw [beq_iff_eq]; exact h
    rw [← H.out, d]
    clear H h
    go_enter Try.func70, Try.ntmps70
    go_wp2
    go_ret
    exact ⟨rfl, rfl⟩
  · have d : ((m : Int) == 9218868437227405312) = false := by rw [beq_eq_false_iff_ne]; exact h
    rw [← H.out, d]
    clear H h
    go_enter Try.func70, Try.ntmps70
    go_wp2
    go_ret
    exact ⟨rfl, rfl⟩

theorem xor_low (x : Nat) (h : x < 9223372036854775808) : x ^^^ 9223372036854775808 = x + 9223372036854775808 := by
  have h1 := nat_add_bits x x 9223372036854775808 (Nat.le_refl _)
  have h2 : x &&& 9223372036854775808 = 0 := by
    refine Nat.eq_of_testBit_eq fun i => ?_
    rw [Nat.testBit_and, Nat.zero_testBit, show (9223372036854775808 : Nat) = 2 ^ 63 by decide, Nat.testBit_two_pow]
    by_cases hi : 63 = i
    · subst hi
      rw [Nat.testBit_lt_two_pow (by rw [show (2 : Nat) ^ 63 = 9223372036854775808 by decide]; exact h)]; rfl
    · simp [hi]
  omega
theorem xor_sign (x : Nat) (hx : F64 x) : bits .xor .u64 (x : Int) 9223372036854775808 = ((flip64 x : Nat) : Int) := by
  have := u64_xor_nat x 9223372036854775808 hx.out (by decide)
  rw [show ((9223372036854775808 : Nat) : Int) = 9223372036854775808 from rfl] at this
  rw [this]
  congr 1
  have hx := hx.out
  unfold flip64 ng mg
  by_cases h : 9223372036854775808 ≤ x
  · rw [if_pos (by simp; exact h)]
    have h2 := xor_low (x - 9223372036854775808) (by omega)
    rw [show x - 9223372036854775808 + 9223372036854775808 = x by omega] at h2
    have h3 : x ^^^ 9223372036854775808 = x - 9223372036854775808 := by
      conv => lhs; rw [← h2]
      rw [Nat.xor_assoc, Nat.xor_self, Nat.xor_zero]
    rw [h3]; omega
  · rw [if_neg (by simp; omega), xor_low x (by omega)]
    omega
theorem F64_flip (x : Nat) : F64 (flip64 x) := by
  refine ⟨?_⟩
  have := mg_lt x
  unfold flip64; split <;> omega
theorem mg_flip (x : Nat) : mg (flip64 x) = mg x := by
  have := mg_lt x
  have e : ∀ y, mg y = y % 9223372036854775808 := fun y => by unfold mg; rfl
  unfold flip64; split
  · rw [e (mg x)]; exact Nat.mod_eq_of_lt this
  · rw [e (mg x + _)]
    omega
theorem ng_flip (x : Nat) : ng (flip64 x) = !ng x := by
  have := mg_lt x
  unfold flip64; split
  · rename_i h; rw [h]; unfold ng; simp; omega
  · rename_i h; rw [show ng x = false by simpa using h]; unfold ng; simp

theorem rFlip_any (x : Nat) (hx : F64 x) (w : World) :
    Calls Try.prog 69 #[.int .u64 x] w fun e w' => e = .returned (.int .u64 (flip64 x)) ∧ w = w' := by
  have hb := xor_sign x hx
  generalize flip64 x = m at *
  go_enter Try.func69, Try.ntmps69
  go_wp2
  go_ret
  exact ⟨rfl, rfl⟩

end Go.Proofs.Ytjhkjekbadbgnaa
