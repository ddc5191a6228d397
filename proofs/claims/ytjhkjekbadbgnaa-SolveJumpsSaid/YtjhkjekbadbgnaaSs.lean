/- What the walks know of x - x and of a float against 0. -/
import Derived.Test.YtjhkjekbadbgnaaRp
import Derived.Test.YtjhkjekbadbgnaaNz
namespace Go.Proofs.Ytjhkjekbadbgnaa
open Go.RowKit

theorem subself (x : Nat) (hx : F64 x) (w : World) : (FloatKind.f64.format.order (fres .sub x x w) 0 == some .eq) = fin x := by
  have h := cn_fsub x x w hx hx
  rw [fsub_self x hx] at h
  have hf := F64_fres .sub x x w
  generalize fres .sub x x w = r at *
  rw [feq r 0 hf F64_0, nn_0, rk_0]
  cases hfin : fin x
  · rw [hfin] at h
    have : nn r = true := by rw [← nn_cn, h]; exact nn_NaNc
    rw [this]; rfl
  · rw [hfin] at h
    have h0 : cn r = 0 := h
    have hn : nn r = false := by rw [← nn_cn, h0]; exact nn_0
    rw [cn_of r hn] at h0
    rw [h0, nn_0, rk_0]; rfl

theorem order_00 : (FloatKind.f64.format.order 0 0 == some .eq) = true := by decide +kernel
theorem order_00n : (FloatKind.f64.format.order 0 0 != some .eq) = false := by decide +kernel

theorem flt0 (x : Nat) (hx : F64 x) (hn : nn x = false) : (FloatKind.f64.format.order x 0 == some .lt) = decide (rk x < 0) := by
  rw [flt x 0 hx F64_0, hn, nn_0, rk_0]; rfl

theorem subself_ne (x : Nat) (hx : F64 x) (w : World) : (FloatKind.f64.format.order (fres .sub x x w) 0 != some .eq) = !fin x := by
  rw [bne, subself x hx w]

end Go.Proofs.Ytjhkjekbadbgnaa
