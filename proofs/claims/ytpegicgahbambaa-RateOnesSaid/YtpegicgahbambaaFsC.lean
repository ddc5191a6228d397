/- FnSpecial's walk. -/
import Derived.Test.YtpegicgahbambaaM6
namespace Go.Proofs.Ytpegicgahbambaa
open Go.RowKit
set_option linter.unusedSimpArgs false
set_option linter.unusedVariables false

/-- What Exp tells of a number is no NaN and not below 0. -/
theorem fexp_pos (x : Nat) (hx : F64 x) (hn : nn x = false) : nn (fexp x) = false ∧ 0 ≤ rk (fexp x) := by
  unfold fexp
  rw [hn, if_neg (by simp)]
  split
  · decide +kernel
  · split
    · decide +kernel
    · rename_i h1 h2
      have r10 : rk w710 < 9218868437227405312 := by decide +kernel
      have r46 : -9218868437227405312 < rk w746 := by decide +kernel
      have E := ex_facts x hx ((rk_fin x).2 ⟨by omega, by omega⟩) (by omega) (by omega)
      obtain ⟨p1, p2, p3⟩ := ex_poly x E
      generalize horn exC (exR x (exN x)) = p at *
      unfold scal
      split
      · decide +kernel
      · rename_i h0
        have hs : ng p = false := by
          cases hg : ng p
          · rfl
          · rw [rk_of_neg hg] at p3; omega
        rw [hs]
        refine ⟨nearest_nn _ _ _, ?_⟩
        have m0 : mnt p ≠ 0 := fun h => h0 ((mnt_zero p).1 h)
        rw [nearest_rnd _ _ _ m0, (rk_word false _ (Nat.min_le_right _ _)).1]
        simp only [Bool.false_eq_true, if_false]
        omega

/-- 1 times a float that is no NaN. -/
theorem one_mul (x : Nat) (hx : F64 x) (hn : nn x = false) : fmul oneW x = x := by
  rcases ways x with ⟨h, _, _⟩ | ⟨_, h, _⟩ | ⟨_, _, h⟩
  · rw [hn] at h; cases h
  · obtain ⟨_, _, c, d, f⟩ := one_parts
    rw [fmul_fi _ _ f hx c h, if_neg (by decide +kernel)]
    unfold sgw
    rw [d]
    have := word_inf x hx h
    have e : dbl.write (.infinity (ng x)) = dbl.word (ng x) 9218868437227405312 := by rw [← dbl_inf]; rfl
    rw [e] at this
    rw [← this]
    unfold Ieee.Format.word
    rw [dbl_sw]
    cases hg : ng x
    · rw [ng_small _ (by decide)]; rfl
    · simp only [if_true]
      rw [show ng (9223372036854775808 + 9218868437227405312) = true by decide +kernel]; rfl
  · unfold fmul; rw [mul_one_l x h hx]; rfl

theorem pow_1 (x : Nat) : fpow x 1 = fmul oneW x := rfl
theorem pow_0 (x : Nat) : fpow x 0 = oneW := rfl

end Go.Proofs.Ytpegicgahbambaa
