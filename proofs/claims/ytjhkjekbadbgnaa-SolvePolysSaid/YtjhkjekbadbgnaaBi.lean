/- Plain: bisection. No program. -/
import Derived.Test.YtjhkjekbadbgnaaOr
namespace Go.Proofs.Ytjhkjekbadbgnaa

/-- The middle of two by their ranks. -/
def md (lo hi : Nat) : Nat := atk ((rk lo + rk hi) / 2)

/-- Bisection of g, with a bound on the rounds; sa: is g above 0 at the left end? What is found, how often was asked, the error. -/
def bis (g : Nat → Nat) (sa : Bool) : Nat → Nat → Nat → Nat → Nat × Nat × Int
  | 0, lo, _, c => (lo, c, 0)
  | k + 1, lo, hi, c =>
    if rk (md lo hi) = rk lo then (lo, c, 0)
    else if nn (g (md lo hi)) then (0, c + 1, 91)
    else if rk (g (md lo hi)) = 0 then (md lo hi, c + 1, 0)
    else if decide (0 < rk (g (md lo hi))) = sa then bis g sa k (md lo hi) hi (c + 1)
    else bis g sa k lo (md lo hi) (c + 1)

def okEnds (lo hi : Nat) : Bool := fin lo && fin hi && decide (rk lo < rk hi)

def root (g : Nat → Nat) (lo hi : Nat) : Nat × Nat × Int :=
  if okEnds lo hi = false then (0, 0, 1)
  else if nn (g lo) then (0, 1, 91)
  else if nn (g hi) then (0, 2, 91)
  else if rk (g lo) = 0 then (lo, 2, 0)
  else if rk (g hi) = 0 then (hi, 2, 0)
  else if decide (0 < rk (g lo)) = decide (0 < rk (g hi)) then (0, 2, 120)
  else bis g (decide (0 < rk (g lo))) 64 lo hi 2

theorem md_rk {lo hi : Nat} (h1 : nn lo = false) (h2 : nn hi = false) : rk (md lo hi) = (rk lo + rk hi) / 2 ∧ F64 (md lo hi) ∧ nn (md lo hi) = false := by
  have a := rk_bd lo h1
  have b := rk_bd hi h2
  unfold md
  exact ⟨rk_atk _ (by omega) (by omega), atk_F64 _ (by omega) (by omega), nn_atk _ (by omega) (by omega)⟩

theorem bis_stop (g : Nat → Nat) (sa : Bool) (k lo hi c : Nat) (h : rk (md lo hi) = rk lo) : bis g sa k lo hi c = (lo, c, 0) := by
  cases k with
  | zero => rfl
  | succ k => unfold bis; rw [if_pos h]
theorem bis_nan (g : Nat → Nat) (sa : Bool) (k lo hi c : Nat) (h : ¬ rk (md lo hi) = rk lo) (h1 : nn (g (md lo hi)) = true) : bis g sa (k + 1) lo hi c = (0, c + 1, 91) := by
  rw [bis, if_neg h, if_pos h1]
theorem bis_zero (g : Nat → Nat) (sa : Bool) (k lo hi c : Nat) (h : ¬ rk (md lo hi) = rk lo) (h1 : nn (g (md lo hi)) = false) (h2 : rk (g (md lo hi)) = 0) : bis g sa (k + 1) lo hi c = (md lo hi, c + 1, 0) := by
  rw [bis, if_neg h, if_neg (by simp [h1]), if_pos h2]
theorem bis_up (g : Nat → Nat) (sa : Bool) (k lo hi c : Nat) (h : ¬ rk (md lo hi) = rk lo) (h1 : nn (g (md lo hi)) = false) (h2 : ¬ rk (g (md lo hi)) = 0) (h3 : decide (0 < rk (g (md lo hi))) = sa) : bis g sa (k + 1) lo hi c = bis g sa k (md lo hi) hi (c + 1) := by
  rw [bis, if_neg h, if_neg (by simp [h1]), if_neg h2, if_pos h3]
theorem bis_dn (g : Nat → Nat) (sa : Bool) (k lo hi c : Nat) (h : ¬ rk (md lo hi) = rk lo) (h1 : nn (g (md lo hi)) = false) (h2 : ¬ rk (g (md lo hi)) = 0) (h3 : ¬ decide (0 < rk (g (md lo hi))) = sa) : bis g sa (k + 1) lo hi c = bis g sa k lo (md lo hi) (c + 1) := by
  rw [bis, if_neg h, if_neg (by simp [h1]), if_neg h2, if_neg h3]

theorem md_bd {lo hi : Nat} (h1 : nn lo = false) (h2 : nn hi = false) (hlt : rk lo < rk hi) {k : Nat} (he : ¬ rk (md lo hi) = rk lo) (hg : rk hi - rk lo ≤ 2 ^ (k + 1)) :
    rk lo < rk (md lo hi) ∧ rk (md lo hi) < rk hi ∧ rk (md lo hi) - rk lo ≤ 2 ^ k ∧ rk hi - rk (md lo hi) ≤ 2 ^ k := by
  rw [(md_rk h1 h2).1] at *
  rw [Int.pow_succ] at hg
  generalize (2 : Int) ^ k = p at *
  omega

theorem gap_0 {lo hi : Nat} (h1 : nn lo = false) (h2 : nn hi = false) (hlt : rk lo < rk hi) (hg : rk hi - rk lo ≤ 2 ^ 0) : rk (md lo hi) = rk lo := by
  rw [(md_rk h1 h2).1]
  have : (2 : Int) ^ 0 = 1 := rfl
  omega

end Go.Proofs.Ytjhkjekbadbgnaa
