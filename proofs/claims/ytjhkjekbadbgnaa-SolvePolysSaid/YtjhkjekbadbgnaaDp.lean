/- Plain: bit lengths, comparing and subtracting by digits. No program. -/
import Derived.Test.YtjhkjekbadbgnaaDg
namespace Go.Proofs.Ytjhkjekbadbgnaa

/-- How many bits. -/
def bl (x : Nat) : Nat := if x = 0 then 0 else x.log2 + 1

theorem bl_half {v : Nat} (h : v ≠ 0) : bl v = bl (v / 2) + 1 := by
  unfold bl
  rw [if_neg h, Nat.log2_def]
  by_cases h2 : v < 2
  · obtain rfl : v = 1 := by omega
    rfl
  · rw [if_pos (by omega), if_neg (show ¬ v / 2 = 0 by omega)]

theorem bl_lt (x : Nat) : x < 2 ^ bl x := by
  unfold bl
  by_cases h : x = 0
  · subst h; decide
  · rw [if_neg h]; exact Nat.lt_log2_self
theorem bl_le {x n : Nat} (h : x < 2 ^ n) : bl x ≤ n := by
  unfold bl
  by_cases h0 : x = 0
  · rw [if_pos h0]; omega
  · rw [if_neg h0]; have := (Nat.log2_lt h0).2 h; omega
theorem le_of_bl {x n : Nat} (h : n < bl x) : 2 ^ n ≤ x := by
  refine Nat.le_of_not_lt fun hc => ?_
  have := bl_le hc; omega
theorem bl_eq {x n : Nat} (h1 : 2 ^ n ≤ x) (h2 : x < 2 ^ (n + 1)) : bl x = n + 1 := by
  have a := bl_le h2
  rcases Nat.lt_or_ge n (bl x) with h | h
  · omega
  · have := bl_lt x
    have := Nat.pow_le_pow_right (n := 2) (by decide) h
    omega

theorem bl_top {x : Nat} (h : x ≠ 0) : bl x = 32 * (nd x - 1) + bl (dg x (nd x - 1)) := by
  have hp := nd_pos h
  have e := mod_succ x (nd x - 1)
  rw [show nd x - 1 + 1 = nd x by omega, Nat.mod_eq_of_lt (lt_nd x)] at e
  have ht := dg_top h
  have hl : x % BB ^ (nd x - 1) < BB ^ (nd x - 1) := Nat.mod_lt _ (BB_pos _)
  generalize dg x (nd x - 1) = d at *
  generalize x % BB ^ (nd x - 1) = r at *
  rw [BB_pow] at *
  generalize 32 * (nd x - 1) = m at *
  have hd : bl d ≠ 0 := by unfold bl; rw [if_neg ht]; omega
  obtain ⟨n, hn⟩ : ∃ n, bl d = n + 1 := ⟨bl d - 1, by omega⟩
  have h1 := le_of_bl (x := d) (n := n) (by omega)
  have h2 := bl_lt d
  rw [hn] at h2 ⊢
  have e1 : x = 2 ^ m * d + r := by rw [Nat.mul_comm]; omega
  rw [show m + (n + 1) = (m + n) + 1 by omega]
  refine bl_eq ?_ ?_
  · rw [Nat.pow_add]
    have := Nat.mul_le_mul_left (2 ^ m) h1
    omega
  · rw [show m + n + 1 = m + (n + 1) by omega, Nat.pow_add]
    have : 2 ^ m * (d + 1) ≤ 2 ^ m * 2 ^ (n + 1) := Nat.mul_le_mul_left _ h2
    rw [Nat.mul_add] at this
    omega

/-- Which is greater: -1, 0, 1. -/
def cmpN (x y : Nat) : Int := if x < y then -1 else if y < x then 1 else 0

theorem cmp_nd {x y : Nat} (h : nd x < nd y) : x < y :=
  Nat.lt_of_lt_of_le (lt_nd x) (le_of_nd h)

theorem cmp_step_lt {x y i : Nat} (h : x / BB ^ (i + 1) = y / BB ^ (i + 1)) (hd : dg x i < dg y i) : x < y := by
  have a := Nat.div_add_mod x (BB ^ (i + 1))
  have b := Nat.div_add_mod y (BB ^ (i + 1))
  rw [h, mod_succ] at a
  rw [mod_succ] at b
  have l1 : x % BB ^ i < BB ^ i := Nat.mod_lt _ (BB_pos _)
  have : (dg x i + 1) * BB ^ i ≤ dg y i * BB ^ i := Nat.mul_le_mul_right _ hd
  rw [Nat.add_mul, Nat.one_mul] at this
  generalize x % BB ^ i = p at *
  generalize y % BB ^ i = q at *
  omega
theorem cmp_step_eq {x y i : Nat} (h : x / BB ^ (i + 1) = y / BB ^ (i + 1)) (hd : dg x i = dg y i) : x / BB ^ i = y / BB ^ i := by
  have e : ∀ z, z / BB ^ i = z / BB ^ (i + 1) * BB + dg z i := by
    intro z
    unfold dg
    rw [Nat.pow_succ, ← Nat.div_div_eq_div_mul]
    have := Nat.div_add_mod (z / BB ^ i) BB
    rw [Nat.mul_comm] at this
    omega
  rw [e x, e y, h, hd]

/-- A borrow's step. -/
theorem sub_step (x y b i : Nat) (hxy : y ≤ x) (hb : b ≤ 1) (hc : x % BB ^ i + b * BB ^ i = (x - y) % BB ^ i + y % BB ^ i) :
    (dg x i + BB - dg y i - b) % BB = dg (x - y) i ∧ 1 - (dg x i + BB - dg y i - b) / BB ≤ 1 ∧ (dg x i + BB - dg y i - b) / BB ≤ 1 ∧
    x % BB ^ (i + 1) + (1 - (dg x i + BB - dg y i - b) / BB) * BB ^ (i + 1) = (x - y) % BB ^ (i + 1) + y % BB ^ (i + 1) := by
  obtain ⟨z, rfl⟩ : ∃ z, x = z + y := ⟨x - y, by omega⟩
  rw [Nat.add_sub_cancel] at *
  have l0 := dg_lt (z + y) i
  have l1 := dg_lt z i
  have l2 := dg_lt y i
  obtain ⟨s1, s2⟩ := add_step z y b i (by rw [Nat.add_comm]; exact hc)
  have hq : (dg z i + dg y i + b) / BB ≤ 1 := by
    have : (dg z i + dg y i + b) / 4294967296 ≤ 1 := by omega
    exact this
  have hdm := Nat.div_add_mod (dg z i + dg y i + b) BB
  rw [s1] at hdm
  have e : (dg (z + y) i + BB - dg y i - b) = dg z i + (1 - (dg z i + dg y i + b) / BB) * BB := by
    generalize (dg z i + dg y i + b) / BB = q at *
    have hB : BB = 4294967296 := rfl
    rcases (by omega : q = 0 ∨ q = 1) with rfl | rfl
    · rw [Nat.mul_zero] at hdm; rw [Nat.sub_zero, Nat.one_mul]; omega
    · rw [Nat.mul_one] at hdm; rw [Nat.sub_self, Nat.zero_mul]; omega
  rw [e]
  generalize (dg z i + dg y i + b) / BB = q at *
  have f1 : (dg z i + (1 - q) * BB) % BB = dg z i := by
    rw [Nat.add_mul_mod_self_right]; exact Nat.mod_eq_of_lt l1
  have f2 : (dg z i + (1 - q) * BB) / BB = 1 - q := by
    rw [Nat.add_mul_div_right _ _ (by decide), Nat.div_eq_of_lt l1, Nat.zero_add]
  rw [f1, f2]
  refine ⟨rfl, by omega, by omega, ?_⟩
  rw [show 1 - (1 - q) = q by omega, Nat.add_comm]
  exact s2

end Go.Proofs.Ytjhkjekbadbgnaa
