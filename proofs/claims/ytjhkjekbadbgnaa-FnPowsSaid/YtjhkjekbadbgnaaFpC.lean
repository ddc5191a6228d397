/- FnPows' walk. -/
import Derived.Test.YtjhkjekbadbgnaaM6
import Derived.Test.YtjhkjekbadbgnaaM7
namespace Go.Proofs.Ytjhkjekbadbgnaa
open Go.RowKit
set_option linter.unusedSimpArgs false
set_option linter.unusedVariables false

theorem cn_fin_mul (x y : Nat) : cn (fmul x y) = fmul x y := by
  unfold fmul
  cases h : dbl.mul x y with
  | none => exact cn_nan _ nn_NaNc
  | some r => exact cn_of _ (nn_mul h)
theorem cn_fin_div (x y : Nat) : cn (fdiv x y) = fdiv x y := by
  unfold fdiv
  cases h : dbl.div x y with
  | none => exact cn_nan _ nn_NaNc
  | some r => exact cn_of _ (nn_div h)
theorem fdiv_cn (x y : Nat) (hx : F64 x) (hy : F64 y) : fdiv (cn x) (cn y) = fdiv x y := by unfold fdiv; rw [div_cn x y hx hy]

theorem powF_cn : ∀ f n r b, F64 r → F64 b → powF f n (cn r) (cn b) = cn (powF f n r b)
  | 0, _, _, _, _, _ => rfl
  | f + 1, n, r, b, hr, hb => by
    unfold powF
    by_cases h : n = 0
    · rw [if_pos h, if_pos h]
    · rw [if_neg h, if_neg h]
      have e1 : (if n % 2 = 1 then fmul (cn r) (cn b) else cn r) = cn (if n % 2 = 1 then fmul r b else r) := by
        split
        · rw [fmul_cn r b hr hb, cn_fin_mul]
        · rfl
      have e2 : (if n / 2 = 0 then cn b else fmul (cn b) (cn b)) = cn (if n / 2 = 0 then b else fmul b b) := by
        split
        · rfl
        · rw [fmul_cn b b hb hb, cn_fin_mul]
      rw [e1, e2]
      refine powF_cn f _ _ _ ?_ ?_
      · split
        · exact F64_fmul _ _
        · exact hr
      · split
        · exact hb
        · exact F64_fmul _ _

theorem fpow_cn (x : Nat) (n : Int) (hx : F64 x) : fpow (cn x) n = cn (fpow x n) := by
  have e : powF 64 n.natAbs oneW (cn x) = cn (powF 64 n.natAbs oneW x) := by
    have := powF_cn 64 n.natAbs oneW x one_w.w hx
    rwa [cn_cns.1] at this
  unfold fpow
  split
  · exact (cn_nan _ nn_NaNc).symm
  · split
    · rw [e, cn_fin_div]
      have := fdiv_cn oneW (powF 64 n.natAbs oneW x) one_w.w (F64_powF _ _ _ _ one_w.w hx)
      rwa [cn_cns.1] at this
    · exact e
theorem F64_fpow (x : Nat) (n : Int) (hx : F64 x) : F64 (fpow x n) := by
  unfold fpow
  split
  · exact F64_NaNc
  · split
    · exact F64_fdiv _ _
    · exact F64_powF _ _ _ _ one_w.w hx

set_option maxHeartbeats 3200000 in
theorem fnPows_any (x : Nat) (n : Int) (w : World) (hx : F64 x) (hn : (Lit.int .i64 n).wf = true) :
    Calls Try.prog 10 #[.float .f64 x, .int .i64 n] w fun e w' => e = .returned (.bool true) ∧ Below w.heap.size w w' := by
  have HE := Hd.mk (pow_any x n hx)
  have HR := Hd.mk (rPow_any x n hx)
  have HI := Hd.mk fun r (hr : F64 r) (hc : cn r = fpow (cn x) n) => is_true r (fpow x n) hr (F64_fpow x n hx) (same_of_cn (by rw [hc, fpow_cn x n hx]))
  generalize fpow (cn x) n = Z at *
  generalize fpow x n = Y at *
  clear hn
  go_enter Try.func10, Try.ntmps10
  go_wp2_with fail
  refine (HE.out _).mono ?_; rintro en w1 ⟨r, k, rfl, hr, hc, rfl⟩
  have HI2 := Hd.mk (HI.out r hr hc)
  have B1 := Hd.mk (below_drewN (Below.refl w.heap.size w) k)
  clear hr hc
  go_wp2_with fail
  refine (apiBits_any _ _).mono ?_; rintro en w' ⟨rfl, rfl⟩
  go_wp2_with fail
  refine (HR.out _).mono ?_; rintro en w2 ⟨rfl, hb⟩
  have B2 := Hd.mk (B1.out.trans (hb.mono B1.out.size))
  clear hb
  go_wp2_with fail
  refine (HI2.out _).mono ?_; rintro en w' ⟨rfl, rfl⟩
  go_wp2_with fail
  refine (awake4_any _).mono ?_; rintro en w3 ⟨rfl, hb⟩
  have B3 := Hd.mk (B2.out.trans (hb.mono B2.out.size))
  clear hb
  go_wp2_with fail
  go_ret
  exact ⟨rfl, B3.out⟩

end Go.Proofs.Ytjhkjekbadbgnaa
