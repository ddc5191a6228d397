/- RateFalls' walk. -/
import Derived.Test.YtpegicgahbambaaGaC
import Derived.Deep.DeepCutAuto
namespace Go.Proofs.Ytpegicgahbambaa
open Go.RowKit
set_option linter.unusedSimpArgs false
set_option linter.unusedVariables false

/-- x >= y, as the program asks it. -/
def geB (x y : Nat) : Bool := (FloatKind.f64.format.order x y == some .gt) || (FloatKind.f64.format.order x y == some .eq)
theorem geB_eq (x y : Nat) (hx : F64 x) (hy : F64 y) : geB x y = (!nn x && !nn y && decide (rk y ≤ rk x)) := by
  unfold geB
  rw [fgt x y hx hy, feq x y hx hy]
  cases nn x <;> cases nn y <;> simp
  by_cases a : rk y < rk x <;> by_cases b : rk x = rk y <;> simp [a, b] <;> omega

def No3 (a b c : Bool) : Prop := a = false ∨ (a = true ∧ b = false) ∨ (a = true ∧ b = true ∧ c = false)
theorem no3_lt {A B : Nat × Int} {x y : Nat} (hx : F64 x) (hy : F64 y) (cx : cn x = A.1) (cy : cn y = B.1) (fa : A.2 = 0 → fin A.1 = true) (fb : B.2 = 0 → fin B.1 = true) (h : A.2 = 0 → B.2 = 0 → rk B.1 ≤ rk A.1) : No3 (A.2 == 0) (B.2 == 0) (FloatKind.f64.format.order x y == some .lt) := by
  have o := ans_ord hx hy cx cy fa fb h
  unfold codeOk at o
  unfold No3
  cases e0 : (A.2 == 0)
  · exact .inl rfl
  cases e1 : (B.2 == 0)
  · exact .inr (.inl ⟨rfl, rfl⟩)
  exact .inr (.inr ⟨rfl, rfl, o (by simpa using e0) (by simpa using e1)⟩)
theorem ord_swap (x y : Nat) (hx : F64 x) (hy : F64 y) : (FloatKind.f64.format.order x y == some .gt) = (FloatKind.f64.format.order y x == some .lt) := by
  rw [fgt x y hx hy, flt y x hy hx, Bool.and_comm (!nn x)]
theorem no3_gt {A B : Nat × Int} {x y : Nat} (hx : F64 x) (hy : F64 y) (cx : cn x = A.1) (cy : cn y = B.1) (fa : A.2 = 0 → fin A.1 = true) (fb : B.2 = 0 → fin B.1 = true) (h : A.2 = 0 → B.2 = 0 → rk A.1 ≤ rk B.1) : No3 (A.2 == 0) (B.2 == 0) (FloatKind.f64.format.order x y == some .gt) := by
  have o := ans_ord hy hx cy cx fb fa (fun a b => h b a)
  unfold codeOk at o
  unfold No3
  rw [ord_swap x y hx hy]
  cases e0 : (A.2 == 0)
  · exact .inl rfl
  cases e1 : (B.2 == 0)
  · exact .inr (.inl ⟨rfl, rfl⟩)
  exact .inr (.inr ⟨rfl, rfl, o (by simpa using e1) (by simpa using e0)⟩)

set_option maxHeartbeats 3200000 in
set_option maxRecDepth 100000 in
theorem rateFalls_any (r0 r1 t0 t1 : Nat) (w : World) (h0 : F64 r0) (h1 : F64 r1) (g0 : F64 t0) (g1 : F64 t1) :
    Calls Try.prog 6 #[.float .f64 r0, .float .f64 r1, .float .f64 t0, .float .f64 t1] w fun e w' => e = .returned (.bool true) ∧ Below w.heap.size w w' := by
  have HA := Hd.mk awake9_any
  have HF0 := Hd.mk (fits_any t0 g0)
  have HF1 := Hd.mk (fits_any t1 g1)
  cases c1 : geB r0 0
  · have G1 : ((FloatKind.f64.format.order r0 0 == some .gt) || (FloatKind.f64.format.order r0 0 == some .eq)) = false := c1
    clear c1
    go_enter Try.func6, Try.ntmps6
    go_wp2_with fail
    refine (HA.out _).mono ?_; rintro en w1 ⟨rfl, hb⟩
    go_wp2_with fail
    go_ret
    exact ⟨rfl, hb⟩
  have G1 : ((FloatKind.f64.format.order r0 0 == some .gt) || (FloatKind.f64.format.order r0 0 == some .eq)) = true := c1
  have C1 := Hd.mk c1
  clear c1
  cases c2 : geB r1 r0
  · have G2 : ((FloatKind.f64.format.order r1 r0 == some .gt) || (FloatKind.f64.format.order r1 r0 == some .eq)) = false := c2
    clear c2
    go_enter Try.func6, Try.ntmps6
    go_wp2_with fail
    refine (HA.out _).mono ?_; rintro en w1 ⟨rfl, hb⟩
    go_wp2_with fail
    go_ret
    exact ⟨rfl, hb⟩
  have G2 : ((FloatKind.f64.format.order r1 r0 == some .gt) || (FloatKind.f64.format.order r1 r0 == some .eq)) = true := c2
  have C2 := Hd.mk c2
  clear c2
  cases c3 : okT t0
  · rw [c3] at HF0
    clear c3
    go_enter Try.func6, Try.ntmps6
    go_wp2_with fail
    refine (HF0.out _).mono ?_; rintro e w' ⟨rfl, rfl⟩
    go_wp2_with fail
    refine (HA.out _).mono ?_; rintro en w1 ⟨rfl, hb⟩
    go_wp2_with fail
    go_ret
    exact ⟨rfl, hb⟩
  rw [c3] at HF0
  have C3 := Hd.mk c3
  clear c3
  cases c4 : okT t1
  · rw [c4] at HF1
    clear c4
    go_enter Try.func6, Try.ntmps6
    go_wp2_with fail
    refine (HF0.out _).mono ?_; rintro e w' ⟨rfl, rfl⟩
    go_wp2_with fail
    refine (HF1.out _).mono ?_; rintro e w' ⟨rfl, rfl⟩
    go_wp2_with fail
    refine (HA.out _).mono ?_; rintro en w1 ⟨rfl, hb⟩
    go_wp2_with fail
    go_ret
    exact ⟨rfl, hb⟩
  rw [c4] at HF1
  have C4 := Hd.mk c4
  clear c4
  cases c5 : (FloatKind.f64.format.order t0 t1 == some .gt)
  rotate_left
  · have C5 := Hd.mk c5
    go_enter Try.func6, Try.ntmps6
    go_wp2_with fail
    refine (HF0.out _).mono ?_; rintro e w' ⟨rfl, rfl⟩
    go_wp2_with fail
    refine (HF1.out _).mono ?_; rintro e w' ⟨rfl, rfl⟩
    go_wp2_with fail
    refine (HA.out _).mono ?_; rintro en w1 ⟨rfl, hb⟩
    go_wp2_with fail
    go_ret
    exact ⟨rfl, hb⟩
  have hss : ∀ w1, cn (fres .sub r1 r1 w1) = if fin r1 then 0 else NaNc := fun w1 => by rw [cn_fsub _ _ _ h1 h1]; exact fsub_self r1 h1
  cases c6 : fin r1
  · have hns : ∀ w1, (FloatKind.f64.format.order (fres .sub r1 r1 w1) 0 != some .eq) = true := fun w1 => by
      have h := hss w1
      rw [c6] at h
      have hn : nn (fres .sub r1 r1 w1) = true := by rw [← nn_cn, h]; decide +kernel
      have h2 := feq _ 0 (F64_fres .sub r1 r1 w1) z0_facts.1
      rw [hn] at h2
      unfold bne; rw [h2]; rfl
    clear c6 hss
    go_enter Try.func6, Try.ntmps6
    go_wp2_with fail
    refine (HF0.out _).mono ?_; rintro e w' ⟨rfl, rfl⟩
    go_wp2_with fail
    refine (HF1.out _).mono ?_; rintro e w' ⟨rfl, rfl⟩
    go_wp2_with fail
    refine (HA.out _).mono ?_; rintro en w1 ⟨rfl, hb⟩
    go_wp2_with fail
    go_ret
    exact ⟨rfl, (below_drewN (Below.refl w.heap.size w) _).trans hb⟩
  have hns : ∀ w1, (FloatKind.f64.format.order (fres .sub r1 r1 w1) 0 != some .eq) = false := fun w1 => by
    have h := hss w1
    rw [c6] at h
    have hx : fres .sub r1 r1 w1 = 0 := of_cn (h.trans (if_pos rfl)) (by decide +kernel)
    rw [hx]; decide +kernel
  have C6 := Hd.mk c6
  clear c6 hss
  have nr0 : nn r0 = false ∧ 0 ≤ rk r0 := by
    have h := C1.out
    rw [geB_eq r0 0 h0 z0_facts.1, z0_facts.2.1, z0_facts.2.2] at h
    simp at h; exact h
  have r01 : rk r0 ≤ rk r1 := by
    have h := C2.out
    rw [geB_eq r1 r0 h1 h0] at h
    simp at h; exact h.2
  have t01 : rk t0 ≤ rk t1 := by
    have h := c5
    rw [fgt t0 t1 g0 g1, nn_fin t0 ((okT_iff t0).1 C3.out).1, nn_fin t1 ((okT_iff t1).1 C4.out).1] at h
    simp at h; exact h
  have HO1 := Hd.mk fun x y (hx : F64 x) (hy : F64 y) (cx : cn x = (facA 1 r0 t0).1) (cy : cn y = (facA 1 r0 t1).1) => ans_ord hx hy cx cy (fac1_num r0 t0) (fac1_num r0 t1) (fun c c' => fac1_falls r0 r0 t0 t1 h0 h0 g0 g1 nr0.2 (Int.le_refl _) t01 c c')
  have HO2 := Hd.mk fun x y (hx : F64 x) (hy : F64 y) (cx : cn x = (facA 1 r0 t0).1) (cy : cn y = (facA 1 r1 t0).1) => ans_ord hx hy cx cy (fac1_num r0 t0) (fac1_num r1 t0) (fun c c' => fac1_falls r0 r1 t0 t0 h0 h1 g0 g0 nr0.2 r01 (Int.le_refl _) c c')
  have HW1 := Hd.mk (aex_fac 1 r0 t0 h0 g0)
  have HW2 := Hd.mk (aex_fac 1 r0 t1 h0 g1)
  have HW3 := Hd.mk (aex_fac 1 r1 t0 h1 g0)
  have HV1 := Hd.mk (aex_fwd r0 oneW t0 h0 one_w.w g0)
  have HV2 := Hd.mk (aex_fwd r1 oneW t0 h1 one_w.w g0)
  have HV3 := Hd.mk (aex_fwd oneW r0 t0 one_w.w h0 g0)
  have HV4 := Hd.mk (aex_fwd oneW r1 t0 one_w.w h1 g0)
  have HQ1 := Hd.mk fun x y (hx : F64 x) (hy : F64 y) (cx : cn x = (fwdA r0 oneW t0).1) (cy : cn y = (fwdA r1 oneW t0).1) => no3_gt hx hy cx cy (fwd_num r0 oneW t0) (fwd_num r1 oneW t0) (fun c c' => fwd_up r0 r1 oneW t0 h0 h1 one_w.w g0 r01 c c')
  have HQ2 := Hd.mk fun x y (hx : F64 x) (hy : F64 y) (cx : cn x = (fwdA oneW r0 t0).1) (cy : cn y = (fwdA oneW r1 t0).1) => no3_lt hx hy cx cy (fwd_num oneW r0 t0) (fwd_num oneW r1 t0) (fun c c' => fwd_down oneW r0 r1 t0 one_w.w h0 h1 g0 r01 c c')
  clear r01 nr0 t01 C1 C2 C4
  generalize facA 1 r0 t0 = A0 at *
  generalize facA 1 r0 t1 = A1 at *
  generalize facA 1 r1 t0 = A2 at *
  generalize fwdA r0 oneW t0 = A3 at *
  generalize fwdA r1 oneW t0 = A4 at *
  generalize fwdA oneW r0 t0 = A5 at *
  generalize fwdA oneW r1 t0 = A6 at *
  go_enter Try.func6, Try.ntmps6
  go_wp2_with fail
  refine (HF0.out _).mono ?_; rintro e w' ⟨rfl, rfl⟩
  go_wp2_with fail
  refine (HF1.out _).mono ?_; rintro e w' ⟨rfl, rfl⟩
  go_wp2_with fail
  refine (HW1.out _).mono ?_; rintro en w1 ⟨x0, rfl, hx0, HX0, hb⟩
  have B1 := Hd.mk ((below_drewN (Below.refl w.heap.size w) (fcnt .sub r1 r1)).trans hb.out)
  clear hb
  go_wp2_with fail
  refine (HW2.out _).mono ?_; rintro en w2 ⟨x1, rfl, hx1, HX1, hb⟩
  have B2 := Hd.mk (B1.out.trans (hb.out.mono B1.out.size))
  clear hb
  go_wp2_with fail
  refine (HW3.out _).mono ?_; rintro en w3 ⟨x2, rfl, hx2, HX2, hb⟩
  have B3 := Hd.mk (B2.out.trans (hb.out.mono B2.out.size))
  clear hb B1 B2
  have o1 := HO1.out x0 x1 hx0 hx1 HX0.out HX1.out
  have o2 := HO2.out x0 x2 hx0 hx2 HX0.out HX2.out
  unfold codeOk at o1 o2
  clear HX0 HX1 HX2 HO1 HO2 HW1 HW2 HW3
  have p1 : ((A0.2 == 0) && (A1.2 == 0) && (FloatKind.f64.format.order x0 x1 == some .lt)) = false := by
    cases e0 : (A0.2 == 0)
    · rfl
    cases e1 : (A1.2 == 0)
    · rfl
    rw [o1 (by simpa using e0) (by simpa using e1)]; rfl
  have p2 : ((A0.2 == 0) && (A2.2 == 0) && (FloatKind.f64.format.order x0 x2 == some .lt)) = false := by
    cases e0 : (A0.2 == 0)
    · rfl
    cases e1 : (A2.2 == 0)
    · rfl
    rw [o2 (by simpa using e0) (by simpa using e1)]; rfl
  clear o1 o2
  generalize A0.2 = a0 at *
  generalize A1.2 = a1 at *
  generalize A2.2 = a2 at *
  have HP : Hd (((a0 == 0) = false) ∨ ((a0 == 0) = true ∧ (a1 == 0) = false ∧ (a2 == 0) = false) ∨ ((a0 == 0) = true ∧ (a1 == 0) = true ∧ (FloatKind.f64.format.order x0 x1 == some .lt) = false ∧ (a2 == 0) = false) ∨ ((a0 == 0) = true ∧ (a1 == 0) = false ∧ (a2 == 0) = true ∧ (FloatKind.f64.format.order x0 x2 == some .lt) = false) ∨ ((a0 == 0) = true ∧ (a1 == 0) = true ∧ (FloatKind.f64.format.order x0 x1 == some .lt) = false ∧ (a2 == 0) = true ∧ (FloatKind.f64.format.order x0 x2 == some .lt) = false)) := ⟨by
    cases e0 : (a0 == 0)
    · exact Or.inl rfl
    rw [e0, Bool.true_and] at p1 p2
    cases e1 : (a1 == 0) <;> cases e2 : (a2 == 0) <;> simp_all⟩
  clear p1 p2
  go_upto_region 6 with fail
  go_cut [95] (fun v wx => v = .bool false ∧ wx = w3)
  case first =>
    rcases HP.out with e0 | ⟨e0, e1, e2⟩ | ⟨e0, e1, l1, e2⟩ | ⟨e0, e1, e2, l2⟩ | ⟨e0, e1, l1, e2, l2⟩
    all_goals
      clear HP
      go_wp2_with fail
      go_meet
      exact ⟨rfl, rfl⟩
  case rest =>
    obtain ⟨rfl, rfl⟩ := hcut
    clear HP
    cases c7 : (FloatKind.f64.format.order r0 0 == some .gt)
    · go_wp2_with fail
      refine (HA.out _).mono ?_; rintro en w4 ⟨rfl, hb⟩
      have B4 := Hd.mk (B3.out.trans (hb.mono B3.out.size))
      clear hb
      go_wp2_with fail
      go_ret
      exact ⟨rfl, B4.out⟩
    cases c8 : (FloatKind.f64.format.order t0 0 == some .gt)
    · go_wp2_with fail
      refine (HA.out _).mono ?_; rintro en w4 ⟨rfl, hb⟩
      have B4 := Hd.mk (B3.out.trans (hb.mono B3.out.size))
      clear hb
      go_wp2_with fail
      go_ret
      exact ⟨rfl, B4.out⟩
    go_wp2_with fail
    refine (HV1.out _).mono ?_; rintro en w4 ⟨y0, rfl, gy0, HY0, hb⟩
    have B4 := Hd.mk (B3.out.trans (hb.out.mono B3.out.size))
    clear hb
    go_wp2_with fail
    refine (HV2.out _).mono ?_; rintro en w5 ⟨y1, rfl, gy1, HY1, hb⟩
    have B5 := Hd.mk (B4.out.trans (hb.out.mono B4.out.size))
    clear hb
    go_wp2_with fail
    refine (HV3.out _).mono ?_; rintro en w6 ⟨y2, rfl, gy2, HY2, hb⟩
    have B6 := Hd.mk (B5.out.trans (hb.out.mono B5.out.size))
    clear hb
    go_wp2_with fail
    refine (HV4.out _).mono ?_; rintro en w7 ⟨y3, rfl, gy3, HY3, hb⟩
    have B7 := Hd.mk (B6.out.trans (hb.out.mono B6.out.size))
    clear hb B3 B4 B5 B6
    have P1 := Hd.mk (HQ1.out y0 y1 gy0 gy1 HY0.out HY1.out)
    have P2 := Hd.mk (HQ2.out y2 y3 gy2 gy3 HY2.out HY3.out)
    clear HY0 HY1 HY2 HY3 HQ1 HQ2 HV1 HV2 HV3 HV4
    go_upto_region 13 with fail
    go_cut [149] (fun v wx => v = .bool false ∧ wx = w7)
    case first =>
      rcases P1.out with e0 | ⟨e0, e1⟩ | ⟨e0, e1, l1⟩ <;> rcases P2.out with e2 | ⟨e2, e3⟩ | ⟨e2, e3, l2⟩
      all_goals
        clear P1 P2
        go_wp2_with fail
        go_meet
        exact ⟨rfl, rfl⟩
    case rest =>
      obtain ⟨rfl, rfl⟩ := hcut
      clear P1 P2
      go_wp2_with fail
      refine (HA.out _).mono ?_; rintro en w8 ⟨rfl, hb⟩
      have B8 := Hd.mk (B7.out.trans (hb.mono B7.out.size))
      clear hb
      go_wp2_with fail
      go_ret
      exact ⟨rfl, B8.out⟩

end Go.Proofs.Ytpegicgahbambaa
