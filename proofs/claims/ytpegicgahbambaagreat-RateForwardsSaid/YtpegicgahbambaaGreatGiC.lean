/- RateForwards' walk. -/
import Derived.Test.YtpegicgahbambaaGreatGhC
import Derived.Test.YtpegicgahbambaaGreatM6
namespace Go.Proofs.YtpegicgahbambaaGreat
open Go.RowKit
set_option linter.unusedSimpArgs false
set_option linter.unusedVariables false

set_option maxHeartbeats 3200000 in
set_option maxRecDepth 100000 in
theorem rateForwards_any (n f t : Nat) (a b : Int) (w : World) (hn : F64 n) (hf : F64 f) (ht : F64 t) (ha : (Lit.int .i64 a).wf = true) (hb : (Lit.int .i64 b).wf = true) :
    Calls Tryz.prog 3 #[.float .f64 n, .float .f64 f, .float .f64 t, .int .i64 a, .int .i64 b] w fun e w' => e = .returned (.bool true) ∧ Below w.heap.size w w' := by
  clear ha hb
  have HE := Hd.mk (forward_any n f t hn hf ht)
  have HR := Hd.mk (rForward_any n f t hn hf ht)
  have HC := Hd.mk (convert_any a b n t hn ht)
  have HD := Hd.mk (rConvert_any a b n t hn ht)
  obtain ⟨A, hA⟩ : ∃ A, fwdA n f t = A := ⟨_, rfl⟩
  obtain ⟨B, hB⟩ : ∃ B, cvA a b n t = B := ⟨_, rfl⟩
  rw [hA] at HE HR
  rw [hB] at HC HD
  obtain ⟨a1, a2⟩ := A
  obtain ⟨b1, b2⟩ := B
  obtain ⟨c2, hc2⟩ : ∃ c : Int, c = a2 := ⟨_, rfl⟩
  obtain ⟨d2, hd2⟩ : ∃ d : Int, d = b2 := ⟨_, rfl⟩
  have HR1 : Hd (∀ w, Calls Tryz.prog 5 #[.int .u64 n, .int .u64 f, .int .u64 t] w fun e w' => e = .returned (.tuple #[.int .u64 (a1 : Nat), .int .i64 c2]) ∧ Below w.heap.size w w') := ⟨fun w => by rw [hc2]; exact HR.out w⟩
  have HD1 : Hd (∀ w, Calls Tryz.prog 8 #[.int .i64 a, .int .i64 b, .int .u64 n, .int .u64 t] w fun e w' => e = .returned (.tuple #[.int .u64 (b1 : Nat), .int .i64 d2]) ∧ Below w.heap.size w w') := ⟨fun w => by rw [hd2]; exact HD.out w⟩
  have hcc : (a2 == c2) = true := by rw [hc2]; simp
  have hcd : decide (a2 = c2) = true := by rw [hc2]; simp
  have hdd : (b2 == d2) = true := by rw [hd2]; simp
  have hde : decide (b2 = d2) = true := by rw [hd2]; simp
  have HI := Hd.mk fun x (hx : F64 x) (hc : cn x = a1) => is_true x a1 hx (by rw [← hc]; exact F64_cn x hx) (same_of_cn (by rw [← hc, cn_cn]))
  have HJ := Hd.mk fun x (hx : F64 x) (hc : cn x = b1) => is_true x b1 hx (by rw [← hc]; exact F64_cn x hx) (same_of_cn (by rw [← hc, cn_cn]))
  clear hA hB HR HD hc2 hd2
  go_enter Tryz.func3, Tryz.ntmps3
  go_wp2_with fail
  refine (HE.out _).mono ?_; rintro en w1 ⟨x, rfl, hx, hc, hb⟩
  have HI2 := Hd.mk (HI.out x hx hc)
  have B1 := Hd.mk hb
  clear hx hc hb HI
  go_wp2_with fail
  refine (apiBits_any _ _).mono ?_; rintro en w' ⟨rfl, rfl⟩
  go_wp2_with fail
  refine (apiBits_any _ _).mono ?_; rintro en w' ⟨rfl, rfl⟩
  go_wp2_with fail
  refine (apiBits_any _ _).mono ?_; rintro en w' ⟨rfl, rfl⟩
  go_wp2_with fail
  refine (HR1.out _).mono ?_; rintro en w2 ⟨rfl, hb⟩
  have B2 := Hd.mk (B1.out.trans (hb.mono B1.out.size))
  clear hb
  go_wp2_with fail
  refine (HC.out _).mono ?_; rintro en w3 ⟨y, rfl, hx, hc, hb⟩
  have HJ2 := Hd.mk (HJ.out y hx hc)
  have B3 := Hd.mk (B2.out.trans (hb.mono B2.out.size))
  clear hx hc hb HJ
  go_wp2_with fail
  refine (apiBits_any _ _).mono ?_; rintro en w' ⟨rfl, rfl⟩
  go_wp2_with fail
  refine (apiBits_any _ _).mono ?_; rintro en w' ⟨rfl, rfl⟩
  go_wp2_with fail
  refine (HD1.out _).mono ?_; rintro en w4 ⟨rfl, hb⟩
  have B4 := Hd.mk (B3.out.trans (hb.mono B3.out.size))
  clear hb
  go_wp2_with fail
  refine (HI2.out _).mono ?_; rintro en w' ⟨rfl, rfl⟩
  go_wp2_with fail
  refine (HJ2.out _).mono ?_; rintro en w' ⟨rfl, rfl⟩
  go_wp2_with fail
  refine (awake9_any _).mono ?_; rintro en w5 ⟨rfl, hb⟩
  have B5 := Hd.mk (B4.out.trans (hb.mono B4.out.size))
  clear hb
  go_wp2_with fail
  go_ret
  exact ⟨rfl, B5.out⟩

end Go.Proofs.YtpegicgahbambaaGreat
