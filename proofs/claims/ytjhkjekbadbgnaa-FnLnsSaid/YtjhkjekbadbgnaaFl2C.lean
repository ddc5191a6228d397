/- FnLns' walk. -/
import Derived.Test.YtjhkjekbadbgnaaM6
import Derived.Test.YtjhkjekbadbgnaaM7
namespace Go.Proofs.Ytjhkjekbadbgnaa
open Go.RowKit
set_option linter.unusedSimpArgs false
set_option linter.unusedVariables false

theorem fln_cn (x : Nat) : fln (cn x) = fln x := by
  cases h : nn x
  · rw [cn_of x h]
  · unfold fln; rw [nn_cn, h, if_pos rfl, if_pos rfl]
theorem F64_fln (x : Nat) (hx : F64 x) : F64 (fln x) := by
  unfold fln
  split
  · exact F64_NaNc
  · split
    · exact ⟨by decide⟩
    · split
      · exact F64_NaNc
      · split
        · exact hx
        · exact F64_fadd _ _

theorem cn_fln (x : Nat) (hx : F64 x) : cn (fln x) = fln x := by
  unfold fln
  split
  · exact cn_nan _ nn_NaNc
  · rename_i h
    split
    · decide +kernel
    · split
      · exact cn_nan _ nn_NaNc
      · split
        · exact cn_of x (by simpa using h)
        · exact cn_fin_add _ _

set_option maxHeartbeats 3200000 in
theorem fnLns_any (x : Nat) (w : World) (hx : F64 x) :
    Calls Try.prog 9 #[.float .f64 x] w fun e w' => e = .returned (.bool true) ∧ Below w.heap.size w w' := by
  have HE := Hd.mk (ln_any x hx)
  have HR := Hd.mk (rLn_any x hx)
  have HI := Hd.mk fun r (hr : F64 r) (hc : cn r = fln (cn x)) => is_true r (fln x) hr (F64_fln x hx) (same_of_cn (by rw [hc, fln_cn, cn_fln x hx]))
  generalize fln (cn x) = Z at *
  generalize fln x = Y at *
  go_enter Try.func9, Try.ntmps9
  go_wp2_with fail
  refine (HE.out _).mono ?_; rintro en w1 ⟨r, rfl, hr, hc, hb⟩
  have HI2 := Hd.mk (HI.out r hr hc)
  have B1 := Hd.mk hb
  clear hr hc hb
  go_wp2_with fail
  refine (apiBits_any _ _).mono ?_; rintro en w' ⟨rfl, rfl⟩
  go_wp2_with fail
  refine (HR.out _).mono ?_; rintro en w2 ⟨rfl, hb⟩
  have B2 := Hd.mk (B1.out.trans (hb.mono B1.out.size))
  clear hb
  go_wp2_with fail
  refine (HI2.out _).mono ?_; rintro en w' ⟨rfl, rfl⟩
  go_wp2_with fail
  refine (awake4_any _).mono ?_; rintro en w3 ⟨rfl, hb⟩
  have B3 := Hd.mk (B2.out.trans (hb.mono B2.out.size))
  clear hb
  go_wp2_with fail
  go_ret
  exact ⟨rfl, B3.out⟩

end Go.Proofs.Ytjhkjekbadbgnaa
