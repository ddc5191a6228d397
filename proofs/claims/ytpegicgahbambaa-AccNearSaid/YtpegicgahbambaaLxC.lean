/- AccNear's rank and aside. -/
import Derived.Test.YtpegicgahbambaaLyC
import Derived.Test.YtpegicgahbambaaM2
namespace Go.Proofs.Ytpegicgahbambaa
open Go.RowKit
set_option linter.unusedSimpArgs false
set_option linter.unusedVariables false

theorem kneg_flip (x : Nat) (hx : F64 x) : Op.negFloat .f64 x = flip64 x := by
  have h := xor_sign x hx
  have := u64_xor_nat x 9223372036854775808 hx.out (by decide)
  rw [show ((9223372036854775808 : Nat) : Int) = 9223372036854775808 from rfl] at this
  rw [this] at h
  have e : Op.negFloat .f64 x = x ^^^ 9223372036854775808 := rfl
  rw [e]; omega
theorem aZ_flip (x : Nat) : aZ (flip64 x) = -aZ x := by
  unfold aZ SV
  rw [fin_flip, mg_flip, ng_flip]
  cases fin x <;> cases ng x <;> simp [Int.neg_mul]
theorem flagB_flip (x : Nat) (h : fin x = true) : upB (flip64 x) = false ∧ dnB (flip64 x) = false := flagB_fin _ (by rw [fin_flip]; exact h)

set_option maxHeartbeats 800000 in
theorem krank_any (x : Nat) (hx : F64 x) (hn : nn x = false) (w : World) :
    Calls Try.prog 44 #[.float .f64 x] w fun e w' => e = .returned (.int .i64 (rk x)) ∧ w = w' := by
  have HR := Hd.mk (rRank_any x hx hn)
  clear hx hn
  go_enter Try.func44, Try.ntmps44
  go_wp2_with fail
  refine (apiBits_any _ _).mono ?_; rintro en w' ⟨rfl, rfl⟩
  go_wp2_with fail
  refine (HR.out _).mono ?_; rintro en w' ⟨rfl, rfl⟩
  go_wp2_with fail
  go_ret
  exact ⟨rfl, rfl⟩

theorem inf_order : (FloatKind.f64.format.order 9218868437227405312 0 == some .gt) = true ∧ (FloatKind.f64.format.order 18442240474082181120 0 == some .gt) = false := by decide +kernel

set_option maxHeartbeats 1600000 in
theorem aside_inf (b x y : Nat) (w : World) (hy : y = 9218868437227405312 ∨ y = 18442240474082181120) :
    Calls Try.prog 45 #[.pointer (some ⟨b, 0, none⟩), .float .f64 x, .float .f64 y] w fun e w' => e = .returned (.int .i64 (if y = 9218868437227405312 then -1 else 1)) ∧ ∃ n, w' = w.drewN n := by
  have hf : F64 y := by rcases hy with rfl | rfl <;> exact ⟨by decide⟩
  have hfn : fin y = false := by rcases hy with rfl | rfl <;> decide +kernel
  have ht : ∀ w, (FloatKind.f64.format.order (fres .sub y y w) 0 != some .eq) = true := fun w => by rw [ksub_ne y hf w, hfn]; rfl
  have hg : (FloatKind.f64.format.order y 0 == some .gt) = decide (y = 9218868437227405312) := by
    rcases hy with rfl | rfl
    · rw [inf_order.1]; rfl
    · rw [inf_order.2]; rfl
  have HY := Hd.mk hy
  clear hf hfn hy
  by_cases h : y = 9218868437227405312
  · have hd : decide (y = 9218868437227405312) = true := by simpa using h
    rw [hd] at hg
    rw [if_pos h]
    clear h hd HY
    go_enter Try.func45, Try.ntmps45
    go_wp2_with fail
    go_ret
    exact ⟨rfl, _, rfl⟩
  · have hd : decide (y = 9218868437227405312) = false := by simpa using h
    rw [hd] at hg
    rw [if_neg h]
    clear h hd HY
    go_enter Try.func45, Try.ntmps45
    go_wp2_with fail
    go_ret
    exact ⟨rfl, _, rfl⟩

set_option maxHeartbeats 1600000 in
theorem aside_num (b : Nat) (z : Int) (k : Nat) (x y : Nat) (w : World) (h : AccIs w b z false false) (hz : Bd k z) (hk : k ≤ 400) (hx : F64 x) (hy : F64 y) (fx : fin x = true) (fy : fin y = true) :
    Calls Try.prog 45 #[.pointer (some ⟨b, 0, none⟩), .float .f64 x, .float .f64 y] w fun e w' => e = .returned (.int .i64 (asgn (z + z + -aZ x + -aZ y) false false)) ∧ Below w.heap.size w w' := by
  have ht : ∀ w, (FloatKind.f64.format.order (fres .sub y y w) 0 != some .eq) = false := fun w => by rw [ksub_ne y hy w, fy]; rfl
  have HF := Hd.mk (F64_flip x)
  have HG := Hd.mk (F64_flip y)
  have ex := kneg_flip x hx
  have ey := kneg_flip y hy
  have H := Hd.mk h
  have HB := Hd.mk (((((hz.add hz).add (Bd.aZ (F64_flip x))).add (Bd.aZ (F64_flip y)))).accB (small_bd _ (by omega)))
  have FX := Hd.mk (flagB_flip x fx)
  have FY := Hd.mk (flagB_flip y fy)
  clear h hz hk hx hy fx fy
  go_enter Try.func45, Try.ntmps45
  go_wp2_with fail
  refine (copy_any b z false false _ (H.out.drewN _)).mono ?_; rintro e w3 ⟨b3, rfl, hb3, hacc, hb⟩
  have A3 := Hd.mk hacc
  have A3' := Hd.mk ((H.out.drewN (fcnt .sub y y)).below hb)
  have B3 := Hd.mk ((below_drewN (Below.refl w.heap.size w) (fcnt .sub y y)).trans hb)
  have L3 := Hd.mk (show w.heap.size ≤ b3 from hb3)
  clear hacc hb hb3
  go_wp2_with fail
  refine (merge_any b3 z false false b z false false _ A3.out A3'.out).mono ?_; rintro e w4 ⟨rfl, hacc, ho⟩
  have A4 := Hd.mk hacc
  have B4 := Hd.mk (Only.below B3.out L3.out ho B3.out.size)
  clear hacc ho
  go_wp2_with fail
  refine (accAdd_any b3 _ _ _ (flip64 x) _ A4.out HF.out).mono ?_; rintro e w5 ⟨rfl, hacc, ho⟩
  rw [FX.out.1, FX.out.2] at hacc
  have A5 := Hd.mk hacc
  have B5 := Hd.mk (Only.below B4.out L3.out ho B4.out.size)
  clear hacc ho
  go_wp2_with fail
  refine (accAdd_any b3 _ _ _ (flip64 y) _ A5.out HG.out).mono ?_; rintro e w6 ⟨rfl, hacc, ho⟩
  rw [FY.out.1, FY.out.2] at hacc
  have A6 := Hd.mk hacc
  have B6 := Hd.mk (Only.below B5.out L3.out ho B5.out.size)
  clear hacc ho
  go_wp2_with fail
  refine (sign_any b3 _ _ _ _ A6.out HB.out).mono ?_; rintro e w' ⟨rfl, rfl⟩
  go_wp2_with fail
  go_ret
  exact ⟨by rw [aZ_flip, aZ_flip]; rfl, B6.out⟩

end Go.Proofs.Ytpegicgahbambaa
