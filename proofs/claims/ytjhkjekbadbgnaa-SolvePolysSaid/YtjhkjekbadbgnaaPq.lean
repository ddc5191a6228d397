/- Plain: a polynomial's root does not hang on which NaN a coefficient is. No program. -/
import Derived.Test.YtjhkjekbadbgnaaBl
namespace Go.Proofs.Ytjhkjekbadbgnaa

/-- Alike but for which NaN. -/
theorem bis_congr {g h : Nat → Nat} (e : ∀ y, F64 y → cn (g y) = cn (h y)) (sa : Bool) : ∀ k lo hi c, nn lo = false → nn hi = false → bis g sa k lo hi c = bis h sa k lo hi c := by
  have en : ∀ y, F64 y → nn (g y) = nn (h y) := fun y fy => by rw [← nn_cn (g y), e y fy, nn_cn]
  have er : ∀ y, F64 y → nn (h y) = false → rk (g y) = rk (h y) := fun y fy hy => by
    have := e y fy
    rw [cn_of _ (by rw [en y fy]; exact hy), cn_of _ hy] at this
    rw [this]
  intro k
  induction k with
  | zero => intro lo hi c _ _; rfl
  | succ k ih =>
    intro lo hi c n1 n2
    obtain ⟨_, fm, nm⟩ := md_rk n1 n2
    unfold bis
    rw [en _ fm]
    split
    · rfl
    · by_cases hn : nn (h (md lo hi)) = true
      · rw [if_pos hn, if_pos hn]
      · have hn' : nn (h (md lo hi)) = false := by simpa using hn
        rw [if_neg hn, if_neg hn, er _ fm hn', ih _ _ _ nm n2, ih _ _ _ n1 nm]

theorem root_congr {g h : Nat → Nat} (e : ∀ y, F64 y → cn (g y) = cn (h y)) (lo hi : Nat) (flo : F64 lo) (fhi : F64 hi) : root g lo hi = root h lo hi := by
  have en : ∀ y, F64 y → nn (g y) = nn (h y) := fun y fy => by rw [← nn_cn (g y), e y fy, nn_cn]
  have er : ∀ y, F64 y → nn (h y) = false → rk (g y) = rk (h y) := fun y fy hy => by
    have := e y fy
    rw [cn_of _ (by rw [en y fy]; exact hy), cn_of _ hy] at this
    rw [this]
  unfold root
  rw [en _ flo, en _ fhi]
  by_cases h0 : okEnds lo hi = false
  · rw [if_pos h0, if_pos h0]
  · rw [if_neg h0, if_neg h0]
    have hk : okEnds lo hi = true := by simpa using h0
    unfold okEnds at hk
    simp only [Bool.and_eq_true] at hk
    have n1 := nn_fin lo hk.1.1
    have n2 := nn_fin hi hk.1.2
    by_cases h1 : nn (h lo) = true
    · rw [if_pos h1, if_pos h1]
    · rw [if_neg h1, if_neg h1]
      by_cases h2 : nn (h hi) = true
      · rw [if_pos h2, if_pos h2]
      · rw [if_neg h2, if_neg h2, er _ flo (by simpa using h1), er _ fhi (by simpa using h2), bis_congr e _ _ _ _ _ n1 n2]

theorem cn_fin_add (x y : Nat) : cn (fadd x y) = fadd x y := by
  unfold fadd
  cases h : dbl.add x y with
  | none => exact cn_nan _ nn_NaNc
  | some r => exact cn_of _ (nn_add h)

theorem fadd_cn (x y : Nat) (hx : F64 x) (hy : F64 y) : fadd (cn x) (cn y) = fadd x y := by unfold fadd; rw [add_cn x y hx hy]
theorem fmul_cn (x y : Nat) (hx : F64 x) (hy : F64 y) : fmul (cn x) (cn y) = fmul x y := by unfold fmul; rw [mul_cn x y hx hy]

theorem F64_horn (l : List Nat) (x : Nat) (h : ∀ i, F64 (l.getD i 0)) : F64 (horn l x) := by
  cases l with
  | nil => exact F64_0
  | cons a r => cases r with
    | nil => exact h 0
    | cons b r => exact F64_fadd _ _

theorem horn_cn : ∀ (l : List Nat) (x : Nat), (∀ i, F64 (l.getD i 0)) → F64 x → cn (horn l x) = horn (l.map cn) (cn x)
  | [], x, _, _ => cn_zero
  | [c], x, _, _ => rfl
  | a :: b :: r, x, h, hx => by
    have ih := horn_cn (b :: r) x (fun i => h (i + 1)) hx
    show cn (fadd (fmul (horn (b :: r) x) x) a) = fadd (fmul (horn ((b :: r).map cn) (cn x)) (cn x)) (cn a)
    rw [← ih, fmul_cn _ _ (F64_horn (b :: r) x (fun i => h (i + 1))) hx, cn_fin_add]
    have ha : F64 a := h 0
    have hm := F64_fmul (horn (b :: r) x) x
    rw [← fadd_cn _ (cn a) hm (F64_cn a ha), cn_cn, fadd_cn _ a hm ha]

end Go.Proofs.Ytjhkjekbadbgnaa
