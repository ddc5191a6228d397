/- A sum's Value lies no farther than half a step from it: the law behind AccNear. -/
import Derived.Test.YtpegicgahbambaaKzC
namespace Go.Proofs.Ytpegicgahbambaa
open Go.RowKit
set_option linter.unusedSimpArgs false
set_option linter.unusedVariables false

/-- A rank's size in the units of a sum. -/
def VU (r : Nat) : Nat := VV r * U1
theorem VU_row (K q : Nat) (hK : 1074 ≤ K) (h1 : q ≤ 9007199254740992) (h2 : 1074 < K → 4503599627370496 ≤ q) : VU ((K - 1074) * 4503599627370496 + q) = q * 2 ^ K := by
  unfold VU
  have e : ∀ t, VV ((K - 1074) * 4503599627370496 + q) = q * 2 ^ t → t + dp = K → VV ((K - 1074) * 4503599627370496 + q) * U1 = q * 2 ^ K := fun t h h' => by
    rw [h]; unfold U1; rw [Nat.mul_assoc, ← Nat.pow_add, h']
  refine e (K - 1074) ?_ (by unfold dp; omega)
  clear e
  obtain ⟨j, rfl⟩ : ∃ j, K = 1074 + j := ⟨K - 1074, by omega⟩
  rw [Nat.add_sub_cancel_left]
  unfold VV
  by_cases h3 : j * 4503599627370496 + q < 4503599627370496
  · have : j = 0 := by omega
    subst this
    rw [if_pos h3]; omega
  · rw [if_neg h3]
    have h4 : 4503599627370496 ≤ q := by
      by_cases hj : j = 0
      · omega
      · exact h2 (by omega)
    by_cases h5 : q = 9007199254740992
    · subst h5
      rw [show j * 4503599627370496 + 9007199254740992 = (j + 2) * 4503599627370496 by omega, Nat.mul_mod_left, Nat.mul_div_cancel _ (by decide), show j + 2 - 1 = j + 1 by omega, Nat.pow_succ]
      generalize 2 ^ j = p
      omega
    · have d1 : (j * 4503599627370496 + q) / 4503599627370496 = j + 1 := by omega
      have d2 : (j * 4503599627370496 + q) % 4503599627370496 = q - 4503599627370496 := by omega
      rw [d1, d2, Nat.add_sub_cancel, show 4503599627370496 + (q - 4503599627370496) = q by omega]

/-- How far a rounded quotient lies. -/
theorem rh_near (z K : Nat) (hK : 0 < K) : 2 * z ≤ 2 * (rh z K false * 2 ^ K) + 2 ^ K ∧ 2 * (rh z K false * 2 ^ K) ≤ 2 * z + 2 ^ K := by
  obtain ⟨k, rfl⟩ : ∃ k, K = k + 1 := ⟨K - 1, by omega⟩
  obtain ⟨a, b, c, d⟩ := rh_ways z k
  have hd := Nat.div_add_mod z (2 ^ (k + 1))
  have hl : z % 2 ^ (k + 1) < 2 ^ (k + 1) := Nat.mod_lt _ (Nat.pow_pos (by decide))
  have hp : 2 ^ (k + 1) = 2 * 2 ^ k := by rw [Nat.pow_succ]; omega
  generalize z / 2 ^ (k + 1) = Q at *
  generalize z % 2 ^ (k + 1) = m at *
  generalize 2 ^ (k + 1) = P at *
  generalize 2 ^ k = H at *
  have hm : (Q + 1) * P = P * Q + P := by rw [Nat.add_mul, Nat.one_mul, Nat.mul_comm]
  have hm' : Q * P = P * Q := Nat.mul_comm _ _
  generalize rh z (k + 1) false = R at *
  rcases Nat.lt_trichotomy m H with h | h | h
  · rw [d h, hm']; omega
  · rcases (by omega : Q % 2 = 0 ∨ Q % 2 = 1) with h2 | h2
    · rw [c h h2, hm']; omega
    · rw [b h h2, hm]; omega
  · rw [a h, hm]; omega

theorem VU_mono {r s : Nat} (h : r ≤ s) : VU r ≤ VU s := by
  unfold VU
  rcases Nat.lt_or_ge r s with h1 | h1
  · exact Nat.mul_le_mul_right _ (Nat.le_of_lt (VV_lt.2 h1))
  · rw [show r = s by omega]; exact Nat.le_refl _

theorem near_up (z : Nat) : 2 * z ≤ VU (rnd z (-2148) false) + VU (rnd z (-2148) false + 1) := by
  obtain ⟨h1, h2, h3⟩ := near_rnd z false
  have hK : 1074 ≤ nearK z := by unfold nearK; omega
  have hn := (rh_near z (nearK z) (by omega)).1
  rw [h1, VU_row _ _ hK h2 h3]
  generalize rh z (nearK z) false = q at *
  generalize nearK z = K at *
  by_cases h4 : q = 9007199254740992
  · have e : (K - 1074) * 4503599627370496 + q + 1 = (K + 1 - 1074) * 4503599627370496 + 4503599627370497 := by omega
    rw [e, VU_row (K + 1) 4503599627370497 (by omega) (by omega) (fun _ => by omega), Nat.pow_succ]
    subst h4
    generalize 2 ^ K = P at *
    omega
  · rw [show (K - 1074) * 4503599627370496 + q + 1 = (K - 1074) * 4503599627370496 + (q + 1) by omega, VU_row K (q + 1) hK (by omega) (fun h => by have := h3 h; omega), Nat.add_mul, Nat.one_mul]
    generalize q * 2 ^ K = A at *
    generalize 2 ^ K = P at *
    omega
theorem near_dn (z : Nat) (h0 : 0 < rnd z (-2148) false) : VU (rnd z (-2148) false) + VU (rnd z (-2148) false - 1) ≤ 2 * z := by
  obtain ⟨h1, h2, h3⟩ := near_rnd z false
  have hK : 1074 ≤ nearK z := by unfold nearK; omega
  have hn := (rh_near z (nearK z) (by omega)).2
  by_cases h4 : 1074 < nearK z ∧ rh z (nearK z) false = 4503599627370496
  · have h5 := VU_mono (show rnd z (-2148) false - 1 ≤ rnd z (-2148) false by omega)
    have h6 : VU (rnd z (-2148) false) ≤ z := by
      rw [h1, VU_row _ _ hK h2 h3, h4.2, show 4503599627370496 = 2 ^ 52 by decide, ← Nat.pow_add]
      have h7 : z ≠ 0 := by
        intro e; subst e
        have := h4.1
        unfold nearK bl at this
        simp at this
      exact le_of_bl (by have := h4.1; unfold nearK at *; omega)
    omega
  · rw [h1] at h0 ⊢
    rw [VU_row _ _ hK h2 h3]
    have hq : 0 < rh z (nearK z) false ∧ (1074 < nearK z → 4503599627370496 ≤ rh z (nearK z) false - 1) := by omega
    generalize rh z (nearK z) false = q at *
    generalize nearK z = K at *
    rw [show (K - 1074) * 4503599627370496 + q - 1 = (K - 1074) * 4503599627370496 + (q - 1) by omega, VU_row K (q - 1) hK (by omega) hq.2]
    obtain ⟨j, rfl⟩ : ∃ j, q = j + 1 := ⟨q - 1, by omega⟩
    rw [Nat.add_sub_cancel]
    have e : (j + 1) * 2 ^ K = j * 2 ^ K + 2 ^ K := by rw [Nat.add_mul, Nat.one_mul]
    rw [e] at hn ⊢
    generalize j * 2 ^ K = A at *
    generalize 2 ^ K = P at *
    omega

/-- A rank's size, with its sign. -/
def VR (n : Int) : Int := if n < 0 then -(VU n.natAbs : Int) else VU n.natAbs
theorem SV_VR (x : Nat) : SV x * (U1 : Int) = VR (rk x) := by
  unfold SV VR rk VU
  cases h : ng x
  · simp only [Bool.false_eq_true, if_false]
    rw [if_neg (by omega), Int.natAbs_natCast, Int.natCast_mul]
  · simp only [if_true]
    by_cases h0 : mg x = 0
    · rw [h0, VV_zero]; simp [VV_zero]
    · rw [if_pos (by omega), Int.natAbs_neg, Int.natAbs_natCast, Int.natCast_mul, Int.neg_mul]

theorem near_mid (z : Int) (h1 : -9218868437227405312 < rz (-2148) z) (h2 : rz (-2148) z < 9218868437227405312) :
    2 * z ≤ VR (rz (-2148) z) + VR (rz (-2148) z + 1) ∧ VR (rz (-2148) z) + VR (rz (-2148) z - 1) ≤ 2 * z := by
  have hu := near_up z.natAbs
  have hd := near_dn z.natAbs
  unfold rz at *
  generalize rnd z.natAbs (-2148) false = r at *
  by_cases hz : z < 0
  · simp only [if_pos hz] at h1 h2 ⊢
    have hm : min r 9218868437227405312 = r := by omega
    rw [hm]
    by_cases h0 : r = 0
    · subst h0
      unfold VR
      simp at *
      have hv : VU 0 = 0 := by unfold VU; rw [VV_zero]; simp
      rw [hv] at hu ⊢
      omega
    · have hd := hd (by omega)
      unfold VR
      rw [if_pos (show -(r : Int) < 0 by omega), if_pos (show -(r : Int) - 1 < 0 by omega), show (-(r : Int)).natAbs = r by omega, show (-(r : Int) - 1).natAbs = r + 1 by omega, show (-(r : Int) + 1).natAbs = r - 1 by omega]
      have hv : VU 0 = 0 := by unfold VU; rw [VV_zero]; simp
      split
      · omega
      · have : r = 1 := by omega
        subst this
        rw [show 1 - 1 = 0 from rfl, hv] at *
        omega
  · simp only [if_neg hz] at h1 h2 ⊢
    have hm : min r 9218868437227405312 = r := by omega
    rw [hm]
    unfold VR
    rw [if_neg (show ¬ (r : Int) < 0 by omega), if_neg (show ¬ (r : Int) + 1 < 0 by omega), show ((r : Int)).natAbs = r by omega, show ((r : Int) + 1).natAbs = r + 1 by omega]
    refine ⟨by omega, ?_⟩
    by_cases h0 : r = 0
    · subst h0
      have hv : VU 0 = 0 := by unfold VU; rw [VV_zero]; simp
      rw [hv]
      split <;> omega
    · have hd := hd (by omega)
      rw [if_neg (show ¬ (r : Int) - 1 < 0 by omega), show ((r : Int) - 1).natAbs = r - 1 by omega]
      omega

end Go.Proofs.Ytpegicgahbambaa
