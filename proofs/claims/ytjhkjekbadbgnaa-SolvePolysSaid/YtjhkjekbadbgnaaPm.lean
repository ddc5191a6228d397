/- Plain: the middle of two whole numbers by their bits. No program. -/
import Derived.Test.YtjhkjekbadbgnaaPl
import Derived.Laws.Wrap64
import Derived.RowKit
namespace Go.Proofs.Ytjhkjekbadbgnaa
open Go.RowKit

theorem nat_add_bits : ∀ n x y : Nat, x ≤ n → x + y = 2 * (x &&& y) + (x ^^^ y) := by
  intro n
  induction n with
  | zero => intro x y h; obtain rfl : x = 0 := by omega
            simp
  | succ n ih =>
    intro x y h
    by_cases h0 : x = 0
    · subst h0; simp
    have h1 := ih (x / 2) (y / 2) (by omega)
    have a1 : (x &&& y) / 2 = x / 2 &&& y / 2 := Nat.and_div_two
    have a2 : (x ^^^ y) / 2 = x / 2 ^^^ y / 2 := Nat.xor_div_two
    have b1 : (x &&& y) % 2 = (x % 2) * (y % 2) := by
      have := Nat.and_mod_two_pow (a := x) (b := y) (n := 1)
      simp only [Nat.pow_one] at this
      rw [this]
      rcases Nat.mod_two_eq_zero_or_one x with h | h <;> rcases Nat.mod_two_eq_zero_or_one y with h' | h' <;> simp [h, h']
    have b2 : (x ^^^ y) % 2 = (x % 2 + y % 2) % 2 := by
      have := Nat.xor_mod_two_pow (a := x) (b := y) (n := 1)
      simp only [Nat.pow_one] at this
      rw [this]
      rcases Nat.mod_two_eq_zero_or_one x with h | h <;> rcases Nat.mod_two_eq_zero_or_one y with h' | h' <;> simp [h, h']
    rw [← a1, ← a2] at h1
    rcases Nat.mod_two_eq_zero_or_one x with h | h <;> rcases Nat.mod_two_eq_zero_or_one y with h' | h' <;> rw [h, h'] at b1 b2 <;> omega

theorem wrap_toInt (v : BitVec 64) : IntKind.i64.wrap (v.toNat : Int) = v.toInt := by
  have h := v.isLt
  rw [BitVec.toInt_eq_toNat_cond]
  have e : IntKind.i64.wrap (v.toNat : Int) = if (v.toNat : Int) % 18446744073709551616 ≥ 9223372036854775808 then (v.toNat : Int) % 18446744073709551616 - 18446744073709551616 else (v.toNat : Int) % 18446744073709551616 := by
    simp [IntKind.wrap, IntKind.bits, IntKind.signed]
  rw [e]
  split <;> split <;> omega

theorem bits_and_i64 (a b : Int) : bits .and .i64 a b = (BitVec.ofInt 64 a &&& BitVec.ofInt 64 b).toInt := wrap_toInt _
theorem bits_xor_i64 (a b : Int) : bits .xor .i64 a b = (BitVec.ofInt 64 a ^^^ BitVec.ofInt 64 b).toInt := wrap_toInt _

theorem msb_toInt (a : BitVec 64) : a.toInt = (a.toNat : Int) - (if a.msb then 18446744073709551616 else 0) := by
  rw [BitVec.toInt_eq_msb_cond]
  split <;> simp

theorem bv_mid (a b : BitVec 64) : a.toInt + b.toInt = 2 * (a &&& b).toInt + (a ^^^ b).toInt := by
  have h := nat_add_bits a.toNat a.toNat b.toNat (Nat.le_refl _)
  rw [← BitVec.toNat_and, ← BitVec.toNat_xor] at h
  rw [msb_toInt a, msb_toInt b, msb_toInt (a &&& b), msb_toInt (a ^^^ b), BitVec.msb_and, BitVec.msb_xor]
  generalize (a &&& b).toNat = c at *
  generalize (a ^^^ b).toNat = d at *
  cases a.msb <;> cases b.msb <;> simp <;> omega

theorem mid64 (a b : Int) (ha : -9223372036854775808 ≤ a) (ha' : a ≤ 9223372036854775807) (hb : -9223372036854775808 ≤ b) (hb' : b ≤ 9223372036854775807) :
    wrap64 (bits .and .i64 a b + bits .xor .i64 a b / 2) = (a + b) / 2 := by
  have h := bv_mid (BitVec.ofInt 64 a) (BitVec.ofInt 64 b)
  rw [← bits_and_i64, ← bits_xor_i64, BitVec.toInt_ofInt, BitVec.toInt_ofInt] at h
  rw [Int.bmod_eq_of_le (by omega) (by omega), Int.bmod_eq_of_le (by omega) (by omega)] at h
  unfold wrap64
  omega
theorem and_one64 (a b : Int) : bits .and .i64 (bits .and .i64 a b) 1 = (a % 2) * (b % 2) := by
  rw [bits_and_i64 a b, bits_and_i64, BitVec.ofInt_toInt]
  have e : (BitVec.ofInt 64 a &&& BitVec.ofInt 64 b &&& BitVec.ofInt 64 1).toNat = ((BitVec.ofInt 64 a).toNat % 2) * ((BitVec.ofInt 64 b).toNat % 2) := by
    rw [BitVec.toNat_and, BitVec.toNat_and, show (BitVec.ofInt 64 1).toNat = 1 from rfl, Nat.and_one_is_mod]
    have := Nat.and_mod_two_pow (a := (BitVec.ofInt 64 a).toNat) (b := (BitVec.ofInt 64 b).toNat) (n := 1)
    simp only [Nat.pow_one] at this
    rw [this]
    rcases Nat.mod_two_eq_zero_or_one (BitVec.ofInt 64 a).toNat with h | h <;> rcases Nat.mod_two_eq_zero_or_one (BitVec.ofInt 64 b).toNat with h' | h' <;> rw [h, h'] <;> rfl
  have m : ∀ n : Int, ((BitVec.ofInt 64 n).toNat : Int) % 2 = n % 2 := by
    intro n
    rw [BitVec.toNat_ofInt]
    have : ((2 ^ 64 : Nat) : Int) = 18446744073709551616 := rfl
    omega
  have h := msb_toInt (BitVec.ofInt 64 a &&& BitVec.ofInt 64 b &&& BitVec.ofInt 64 1)
  rw [BitVec.msb_and, show (BitVec.ofInt 64 1).msb = false from rfl, Bool.and_false, e] at h
  rw [h]
  have ha := m a
  have hb := m b
  generalize (BitVec.ofInt 64 a).toNat = x at *
  generalize (BitVec.ofInt 64 b).toNat = y at *
  have hx : ((x % 2 : Nat) : Int) = a % 2 := by omega
  have hy : ((y % 2 : Nat) : Int) = b % 2 := by omega
  rw [Int.natCast_mul, hx, hy]
  simp

theorem rmid64 (a b : Int) (ha : -9223372036854775808 ≤ a) (ha' : a ≤ 9223372036854775807) (hb : -9223372036854775808 ≤ b) (hb' : b ≤ 9223372036854775807) :
    wrap64 (wrap64 (a / 2 + b / 2) + bits .and .i64 (bits .and .i64 a b) 1) = (a + b) / 2 := by
  rw [and_one64]
  unfold wrap64
  rcases Int.emod_two_eq a with h | h <;> rcases Int.emod_two_eq b with h' | h' <;> rw [h, h'] <;> omega

end Go.Proofs.Ytjhkjekbadbgnaa
