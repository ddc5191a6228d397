/- Plain: rounding to a double, by dropping digits; it does not hang on how many digits are handed in. No program. -/
import Derived.Test.YtjhkjekbadbgnaaDp
import Derived.Test.YtjhkjekbadbgnaaFl
namespace Go.Proofs.Ytjhkjekbadbgnaa

/-- d / 2^k to the nearest, k from 1 on, and a little more, if more. -/
def rh (d k : Nat) (more : Bool) : Nat :=
  d / 2 ^ k + (if d / 2 ^ (k - 1) % 2 = 1 ∧ (d % 2 ^ (k - 1) ≠ 0 ∨ more = true ∨ d / 2 ^ k % 2 = 1) then 1 else 0)

/-- The place of the last digit that is kept. -/
def lsb (d : Nat) (e : Int) : Int := max ((bl d : Int) - 53 + e) (-1074)

/-- The rung that is nearest to d * 2^e. -/
def rnd (d : Nat) (e : Int) (more : Bool) : Nat :=
  (lsb d e + 1074).toNat * 4503599627370496 + (if lsb d e ≤ e then d * 2 ^ (e - lsb d e).toNat else rh d (lsb d e - e).toNat more)

theorem rh_scale (d' j k : Nat) (more' more : Bool) (hk : 0 < k) (hm : more = true ↔ (d' % 2 ^ j ≠ 0 ∨ more' = true)) : rh d' (k + j) more' = rh (d' / 2 ^ j) k more := by
  unfold rh
  have e1 : d' / 2 ^ (k + j) = d' / 2 ^ j / 2 ^ k := by rw [Nat.div_div_eq_div_mul, ← Nat.pow_add, Nat.add_comm]
  have e2 : d' / 2 ^ (k + j - 1) = d' / 2 ^ j / 2 ^ (k - 1) := by rw [Nat.div_div_eq_div_mul, ← Nat.pow_add]; congr 2; omega
  have e3 : d' % 2 ^ (k + j - 1) = d' % 2 ^ j + 2 ^ j * (d' / 2 ^ j % 2 ^ (k - 1)) := by
    rw [show k + j - 1 = j + (k - 1) by omega, Nat.pow_add, Nat.mod_mul]
  have e4 : d' % 2 ^ (k + j - 1) ≠ 0 ↔ (d' % 2 ^ j ≠ 0 ∨ d' / 2 ^ j % 2 ^ (k - 1) ≠ 0) := by
    rw [e3]
    have hp : 2 ^ j ≠ 0 := by have := Nat.pow_pos (n := j) (show 0 < 2 by decide); omega
    constructor
    · intro h
      rcases Decidable.em (d' % 2 ^ j = 0) with h1 | h1
      · right; intro h2; rw [h1, h2] at h; simp at h
      · left; exact h1
    · intro h h0
      have h1 : d' % 2 ^ j = 0 := by omega
      have h2 : 2 ^ j * (d' / 2 ^ j % 2 ^ (k - 1)) = 0 := by omega
      rcases Nat.mul_eq_zero.1 h2 with h3 | h3
      · exact hp h3
      · rcases h with h | h
        · exact h h1
        · exact h h3
  rw [e1, e2]
  congr 1
  have ic : ∀ (P Q : Prop) [Decidable P] [Decidable Q], (P ↔ Q) → (if P then 1 else 0 : Nat) = if Q then 1 else 0 := fun P Q _ _ h => by
    by_cases hq : Q
    · rw [if_pos hq, if_pos (h.2 hq)]
    · rw [if_neg hq, if_neg (fun hp => hq (h.1 hp))]
  refine ic _ _ ?_
  rw [e4, hm]
  constructor
  · rintro ⟨h1, (h2 | h2) | h2 | h2⟩
    · exact ⟨h1, .inr (.inl (.inl h2))⟩
    · exact ⟨h1, .inl h2⟩
    · exact ⟨h1, .inr (.inl (.inr h2))⟩
    · exact ⟨h1, .inr (.inr h2)⟩
  · rintro ⟨h1, h2 | (h2 | h2) | h2⟩
    · exact ⟨h1, .inl (.inr h2)⟩
    · exact ⟨h1, .inl (.inl h2)⟩
    · exact ⟨h1, .inr (.inl h2)⟩
    · exact ⟨h1, .inr (.inr h2)⟩

theorem rh_exact (d k : Nat) (hk : 0 < k) : rh (d * 2 ^ k) k false = d := by
  unfold rh
  have hp := Nat.pow_pos (n := k) (show 0 < 2 by decide)
  have e1 : d * 2 ^ k / 2 ^ k = d := Nat.mul_div_cancel _ hp
  have e2 : d * 2 ^ k / 2 ^ (k - 1) % 2 = 0 := by
    have : d * 2 ^ k = d * 2 * 2 ^ (k - 1) := by
      rw [Nat.mul_assoc, ← Nat.pow_succ', show (k - 1).succ = k by omega]
    rw [this, Nat.mul_div_cancel _ (Nat.pow_pos (by decide))]
    omega
  rw [e1, e2, if_neg (by omega)]
  rfl

theorem bl_pos {d : Nat} (h : d ≠ 0) : 0 < bl d := by unfold bl; rw [if_neg h]; omega

theorem bl_shift {d : Nat} (h : d ≠ 0) (k : Nat) : bl (d * 2 ^ k) = bl d + k := by
  have h1 := bl_lt d
  have h2 := bl_pos h
  have h3 := le_of_bl (x := d) (n := bl d - 1) (by omega)
  have hp := Nat.pow_pos (n := k) (show 0 < 2 by decide)
  rw [show bl d + k = (bl d - 1 + k) + 1 by omega]
  refine bl_eq ?_ ?_
  · rw [Nat.pow_add]; exact Nat.mul_le_mul_right _ h3
  · rw [show bl d - 1 + k + 1 = bl d + k by omega, Nat.pow_add]
    exact Nat.mul_lt_mul_of_pos_right h1 hp

theorem bl_div {d j : Nat} (h : d / 2 ^ j ≠ 0) : bl d = bl (d / 2 ^ j) + j := by
  have h1 := bl_lt (d / 2 ^ j)
  have h2 := bl_pos h
  have h3 := le_of_bl (x := d / 2 ^ j) (n := bl (d / 2 ^ j) - 1) (by omega)
  have hp := Nat.pow_pos (n := j) (show 0 < 2 by decide)
  rw [show bl (d / 2 ^ j) + j = (bl (d / 2 ^ j) - 1 + j) + 1 by omega]
  generalize bl (d / 2 ^ j) = b at *
  refine bl_eq ?_ ?_
  · rw [Nat.pow_add]
    exact (Nat.le_div_iff_mul_le hp).1 h3
  · rw [show b - 1 + j + 1 = b + j by omega, Nat.pow_add]
    exact (Nat.div_lt_iff_lt_mul hp).1 h1

/-- The same number with more digits. -/
theorem rnd_scale (d k : Nat) (e : Int) (h : d ≠ 0) : rnd (d * 2 ^ k) (e - k) false = rnd d e false := by
  have hl : lsb (d * 2 ^ k) (e - k) = lsb d e := by unfold lsb; rw [bl_shift h]; congr 1; omega
  unfold rnd
  rw [hl]
  congr 1
  generalize lsb d e = L
  by_cases h1 : L ≤ e - k
  · rw [if_pos h1, if_pos (by omega), Nat.mul_assoc, ← Nat.pow_add]
    congr 2; omega
  · rw [if_neg h1]
    by_cases h2 : L ≤ e
    · rw [if_pos h2]
      have e1 : d * 2 ^ k = d * 2 ^ (e - L).toNat * 2 ^ (L - (e - k)).toNat := by
        rw [Nat.mul_assoc, ← Nat.pow_add]; congr 2; omega
      rw [e1]
      exact rh_exact _ _ (by omega)
    · rw [if_neg h2, show (L - (e - k)).toNat = (L - e).toNat + k by omega, rh_scale (d * 2 ^ k) k (L - e).toNat false false (by omega) (by rw [Nat.mul_mod_left]; simp), Nat.mul_div_cancel _ (Nat.pow_pos (by decide))]

/-- A quotient and what is left: further digits make nothing, if there are enough. -/
theorem rnd_sticky (d' j : Nat) (e : Int) (more' more : Bool) (h : 54 ≤ bl (d' / 2 ^ j)) (hm : more = true ↔ (d' % 2 ^ j ≠ 0 ∨ more' = true)) : rnd d' (e - j) more' = rnd (d' / 2 ^ j) e more := by
  have h0 : d' / 2 ^ j ≠ 0 := by intro h0; rw [h0] at h; exact absurd h (by decide)
  have hl : lsb d' (e - j) = lsb (d' / 2 ^ j) e := by unfold lsb; rw [bl_div h0]; congr 1; omega
  have hL : e < lsb (d' / 2 ^ j) e := by unfold lsb; omega
  unfold rnd
  rw [hl]
  congr 1
  generalize lsb (d' / 2 ^ j) e = L at *
  rw [if_neg (by omega), if_neg (by omega), show (L - (e - j)).toNat = (L - e).toNat + j by omega]
  exact rh_scale d' j (L - e).toNat more' more (by omega) hm

theorem log2_bl {d : Nat} (h : d ≠ 0) : (d.log2 : Int) = bl d - 1 := by unfold bl; rw [if_neg h]; omega

/-- The kit's cut is this rounding. -/
theorem cut_rh (s : Bool) (d k : Nat) (hk : 0 < k) : Ieee.Toward.even.cut s d k = rh d k false := by
  unfold Ieee.Toward.cut
  simp only
  by_cases hc : k ≤ d.log2 + 2
  · rw [Nat.min_eq_left hc, Nat.one_shiftLeft]
    unfold rh
    congr 1
    have e : 2 ^ k = 2 * 2 ^ (k - 1) := by rw [← Nat.pow_succ', show (k - 1).succ = k by omega]
    have e1 : d % 2 ^ k = d % 2 ^ (k - 1) + 2 ^ (k - 1) * (d / 2 ^ (k - 1) % 2) := by
      conv => lhs; rw [show k = (k - 1) + 1 by omega, Nat.pow_succ, Nat.mod_mul]
    have l : d % 2 ^ (k - 1) < 2 ^ (k - 1) := Nat.mod_lt _ (Nat.pow_pos (by decide))
    rw [e1, e]
    generalize d / (2 * 2 ^ (k - 1)) = low at *
    generalize d % 2 ^ (k - 1) = r at *
    generalize d / 2 ^ (k - 1) = q at *
    generalize 2 ^ (k - 1) = g at *
    rcases (by omega : q % 2 = 0 ∨ q % 2 = 1) with h2 | h2
    · rw [h2, if_neg (by omega), show decide (2 * g < 2 * (r + g * 0)) = false by simp; omega, show (2 * g == 2 * (r + g * 0)) = false by rw [beq_eq_false_iff_ne]; omega]
      rfl
    · rw [h2]
      by_cases h3 : r = 0
      · subst h3
        rw [show decide (2 * g < 2 * (0 + g * 1)) = false by simp, show (2 * g == 2 * (0 + g * 1)) = true by rw [beq_iff_eq]; omega]
        by_cases h4 : low % 2 = 1
        · rw [if_pos ⟨rfl, .inr (.inr h4)⟩, show (low % 2 == 1) = true by rw [beq_iff_eq]; exact h4]; rfl
        · rw [if_neg (by simp; omega), show (low % 2 == 1) = false by rw [beq_eq_false_iff_ne]; exact h4]; rfl
      · rw [show decide (2 * g < 2 * (r + g * 1)) = true by simp; omega, if_pos ⟨rfl, .inl h3⟩]
        rfl
  · rw [Nat.min_eq_right (by omega), Nat.one_shiftLeft]
    have hl : d < 2 ^ (d.log2 + 1) := Nat.lt_log2_self
    have h2 : 2 ^ (d.log2 + 2) = 2 * 2 ^ (d.log2 + 1) := Nat.pow_succ'
    have h3 : 2 ^ (d.log2 + 1) ≤ 2 ^ (k - 1) := Nat.pow_le_pow_right (by decide) (by omega)
    have h4 : 2 ^ (k - 1) ≤ 2 ^ k := Nat.pow_le_pow_right (by decide) (by omega)
    unfold rh
    rw [Nat.div_eq_of_lt (by omega : d < 2 ^ (d.log2 + 2)), Nat.mod_eq_of_lt (by omega : d < 2 ^ (d.log2 + 2)), Nat.div_eq_of_lt (by omega : d < 2 ^ k), Nat.div_eq_of_lt (by omega : d < 2 ^ (k - 1)), if_neg (by omega)]
    rw [show decide (2 ^ (d.log2 + 2) < 2 * d) = false by simp; omega, show (2 ^ (d.log2 + 2) == 2 * d) = false by rw [beq_eq_false_iff_ne]; omega]
    rfl

/-- The kit's rounding, told so. -/
theorem nearest_rnd (s : Bool) (d : Nat) (e : Int) (h : d ≠ 0) : dbl.nearest s d e = dbl.word s (min (rnd d e false) 9218868437227405312) := by
  unfold Ieee.Format.nearest
  rw [if_neg h]
  have hL : max (e + d.log2 - dbl.fractionBits) dbl.leastPlace = lsb d e := by
    unfold lsb
    rw [dbl_lp, log2_bl h, show ((dbl.fractionBits : Nat) : Int) = 52 from rfl]
    congr 1; omega
  dsimp only
  rw [hL, dbl_lp, dbl_bin, dbl_inf]
  unfold rnd
  generalize lsb d e = L
  refine congrArg (fun z => dbl.word s (min z 9218868437227405312)) ?_
  rw [show L - -1074 = L + 1074 by omega]
  refine congrArg (fun z => (L + 1074).toNat * 4503599627370496 + z) ?_
  by_cases hc : L ≤ e
  · rw [if_pos hc, show (L - e).toNat = 0 by omega]
    rw [Nat.shiftLeft_eq]
    unfold Ieee.Toward.cut
    simp [Nat.mod_one]
  · rw [if_neg hc, show (e - L).toNat = 0 by omega, Nat.shiftLeft_zero]
    exact cut_rh s d _ (by omega)

end Go.Proofs.Ytjhkjekbadbgnaa
