/- FnExps' walk. -/
import Derived.Test.YtjhkjekbadbgnaaM6
import Derived.Test.YtjhkjekbadbgnaaM7
namespace Go.Proofs.Ytjhkjekbadbgnaa
open Go.RowKit
set_option linter.unusedSimpArgs false
set_option linter.unusedVariables false

theorem fexp_cn (x : Nat) : fexp (cn x) = fexp x := by
  cases h : nn x
  · rw [cn_of x h]
  · unfold fexp; rw [nn_cn, h, if_pos rfl, if_pos rfl]
theorem F64_fexp (x : Nat) : F64 (fexp x) := by
  unfold fexp scal
  split
  · exact F64_NaNc
  · split
    · exact ⟨by decide⟩
    · split
      · exact ⟨by decide⟩
      · split
        · exact ⟨by decide⟩
        · exact F64_of_lt (Ieee.Format.nearest_lt _ _ _ _)
theorem cn_fexp (x : Nat) : cn (fexp x) = fexp x := by
  unfold fexp scal
  split
  · exact cn_nan _ nn_NaNc
  · split
    · decide +kernel
    · split
      · exact cn_zero
      · split
        · exact cn_zero
        · exact cn_of _ (nearest_nn _ _ _)

set_option maxHeartbeats 3200000 in
theorem fnExps_any (x : Nat) (w : World) (hx : F64 x) :
    Calls Try.prog 8 #[.float .f64 x] w fun e w' => e = .returned (.bool true) ∧ Below w.heap.size w w' := by
  have HE := Hd.mk (exp_any x hx)
  have HR := Hd.mk (rExp_any x hx)
  have HI := Hd.mk fun r (hr : F64 r) (hc : cn r = fexp (cn x)) => is_true r (fexp x) hr (F64_fexp x) (same_of_cn (by rw [hc, fexp_cn, cn_fexp]))
  generalize fexp (cn x) = Z at *
  generalize fexp x = Y at *
  go_enter Try.func8, Try.ntmps8
  go_wp2_with fail
  refine (HE.out _).mono ?_; rintro en w1 ⟨r, rfl, hr, hc, hb⟩
  have HI2 := Hd.mk (HI.out r hr hc)
  have B1 := Hd.mk hb
  clear hr hc hb
  go_wp2_with fail
  refine (apiBits_any _ _).mono ?_; rintro en w' ⟨rfl, rfl⟩
  go_wp2_with fail
  refine (HR.out _).mono ?_; rintro en w2 ⟨rfl, hb⟩
  have B2 := Hd.mk (B1.out.trans (hb.mono B1.out.size))
  clear hb
  go_wp2_with fail
  refine (HI2.out _).mono ?_; rintro en w' ⟨rfl, rfl⟩
  go_wp2_with fail
  refine (awake4_any _).mono ?_; rintro en w3 ⟨rfl, hb⟩
  have B3 := Hd.mk (B2.out.trans (hb.mono B2.out.size))
  clear hb
  go_wp2_with fail
  go_ret
  exact ⟨rfl, B3.out⟩

end Go.Proofs.Ytjhkjekbadbgnaa
