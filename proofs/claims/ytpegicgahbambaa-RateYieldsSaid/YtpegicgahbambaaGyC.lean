/- RateYields' walk. -/
import Derived.Test.YtpegicgahbambaaGsC
import Derived.Test.YtpegicgahbambaaM8
import Derived.Test.YtpegicgahbambaaM6
namespace Go.Proofs.Ytpegicgahbambaa
open Go.RowKit
set_option linter.unusedSimpArgs false
set_option linter.unusedVariables false

set_option maxHeartbeats 3200000 in
theorem rateYields_any (k : Int) (r t : Nat) (w : World) (hk : (Lit.int .i64 k).wf = true) (hr : F64 r) (ht : F64 t) :
    Calls Try.prog 4 #[.int .i64 k, .float .f64 r, .float .f64 t] w fun e w' => e = .returned (.bool true) ∧ Below w.heap.size w w' := by
  have HE := Hd.mk (yield_any k r t hr ht)
  have HR := Hd.mk (rYield_any k r t hr ht)
  obtain ⟨A, hA⟩ : ∃ A, yldA k r t = A := ⟨_, rfl⟩
  rw [hA] at HE HR
  obtain ⟨a1, a2⟩ := A
  obtain ⟨c2, hc2⟩ : ∃ c : Int, c = a2 := ⟨_, rfl⟩
  have HR1 : Hd (∀ w, Calls Try.prog 19 #[.int .i64 k, .int .u64 r, .int .u64 t] w fun e w' => e = .returned (.tuple #[.int .u64 (a1 : Nat), .int .i64 c2]) ∧ Below w.heap.size w w') := ⟨fun w => by rw [hc2]; exact HR.out w⟩
  have hcc : (a2 == c2) = true := by rw [hc2]; simp
  have hcd : decide (a2 = c2) = true := by rw [hc2]; simp
  have HI := Hd.mk fun x (hx : F64 x) (hc : cn x = a1) => is_true x a1 hx (by rw [← hc]; exact F64_cn x hx) (same_of_cn (by rw [← hc, cn_cn]))
  clear hA HR hc2
  go_enter Try.func4, Try.ntmps4
  go_wp2_with fail
  refine (HE.out _).mono ?_; rintro en w1 ⟨x, rfl, hx, hc, hb⟩
  have HI2 := Hd.mk (HI.out x hx hc)
  have B1 := Hd.mk hb
  clear hx hc hb HI
  go_wp2_with fail
  refine (apiBits_any _ _).mono ?_; rintro en w' ⟨rfl, rfl⟩
  go_wp2_with fail
  refine (apiBits_any _ _).mono ?_; rintro en w' ⟨rfl, rfl⟩
  go_wp2_with fail
  refine (HR1.out _).mono ?_; rintro en w2 ⟨rfl, hb⟩
  have B2 := Hd.mk (B1.out.trans (hb.mono B1.out.size))
  clear hb
  go_wp2_with fail
  refine (HI2.out _).mono ?_; rintro en w' ⟨rfl, rfl⟩
  go_wp2_with fail
  refine (awake9_any _).mono ?_; rintro en w3 ⟨rfl, hb⟩
  have B3 := Hd.mk (B2.out.trans (hb.mono B2.out.size))
  clear hb
  go_wp2_with fail
  go_ret
  exact ⟨rfl, B3.out⟩

end Go.Proofs.Ytpegicgahbambaa
