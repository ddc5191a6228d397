/- FnSpecial's walk. -/
import Derived.Test.YtjhkjekbadbgnaaM6
namespace Go.Proofs.Ytjhkjekbadbgnaa
open Go.RowKit
set_option linter.unusedSimpArgs false
set_option linter.unusedVariables false

/-- What Exp tells of a number is no NaN and not below 0. -/
theorem fexp_pos (x : Nat) (hx : F64 x) (hn : nn x = false) : nn (fexp x) = false ∧ 0 ≤ rk (fexp x) := by
  unfold fexp
  rw [hn, if_neg (by simp)]
  split
  · decide +kernel
  · split
    · decide +kernel
    · rename_i h1 h2
      have r10 : rk w710 < 9218868437227405312 := by decide +kernel
      have r46 : -9218868437227405312 < rk w746 := by decide +kernel
      have E := ex_facts x hx ((rk_fin x).2 ⟨by omega, by omega⟩) (by omega) (by omega)
      obtain ⟨p1, p2, p3⟩ := ex_poly x E
      generalize horn exC (exR x (exN x)) = p at *
      unfold scal
      split
      · decide +kernel
      · rename_i h0
        have hs : ng p = false := by
          cases hg : ng p
          · rfl
          · rw [rk_of_neg hg] at p3; omega
        rw [hs]
        refine ⟨nearest_nn _ _ _, ?_⟩
        have m0 : mnt p ≠ 0 := fun h => h0 ((mnt_zero p).1 h)
        rw [nearest_rnd _ _ _ m0, (rk_word false _ (Nat.min_le_right _ _)).1]
        simp only [Bool.false_eq_true, if_false]
        omega

/-- 1 times a float that is no NaN. -/
theorem one_mul (x : Nat) (hx : F64 x) (hn : nn x = false) : fmul oneW x = x := by
  rcases ways x with ⟨h, _, _⟩ | ⟨_, h, _⟩ | ⟨_, _, h⟩
  · rw [hn] at h; cases h
  · obtain ⟨_, _, c, d, f⟩ := one_parts
    rw [fmul_fi _ _ f hx c h, if_neg (by decide +kernel)]
    unfold sgw
    rw [d]
    have := word_inf x hx h
    have e : dbl.write (.infinity (ng x)) = dbl.word (ng x) 9218868437227405312 := by rw [← dbl_inf]; rfl
    rw [e] at this
    rw [← this]
    unfold Ieee.Format.word
    rw [dbl_sw]
    cases hg : ng x
    · rw [ng_small _ (by decide)]; rfl
    · simp only [if_true]
      rw [show ng (9223372036854775808 + 9218868437227405312) = true by decide +kernel]; rfl
  · unfold fmul; rw [mul_one_l x h hx]; rfl

theorem pow_1 (x : Nat) : fpow x 1 = fmul oneW x := rfl
theorem pow_0 (x : Nat) : fpow x 0 = oneW := rfl

set_option maxHeartbeats 3200000 in
theorem fnSpecial_any (x : Nat) (w : World) (hx : F64 x) :
    Calls Try.prog 12 #[.float .f64 x] w fun e w' => e = .returned (.bool true) ∧ Below w.heap.size w w' := by
  have HE := Hd.mk (exp_any x hx)
  have H1 := Hd.mk (pow_any x 1 hx)
  have H0 := Hd.mk (pow_any x 0 hx)
  rw [pow_1] at H1
  rw [pow_0] at H0
  have F0 : F64 0 := ⟨by decide⟩
  obtain ⟨q1, q2, q3, q4⟩ := max_facts
  have oo : (FloatKind.f64.format.order 4607182418800017408 4607182418800017408 == some .eq) = true := by decide +kernel
  cases hn : nn x
  · have e := cn_of x hn
    rw [e] at HE H1
    rw [one_mul x hx hn] at H1
    obtain ⟨hp1, hp2⟩ := fexp_pos x hx hn
    have o1 : (FloatKind.f64.format.order x x == some .eq) = true := by rw [feq x x hx hx, hn]; simp
    have HY := Hd.mk fun r (hr : F64 r) (hc : cn r = fexp x) => show (FloatKind.f64.format.order r r == some .eq) = true ∧ (FloatKind.f64.format.order r 0 == some .lt) = false from by
      obtain rfl := of_cn hc hp1
      rw [feq _ _ hr hr, flt _ _ hr F0, hp1, q3, q4]
      refine ⟨by simp, ?_⟩
      simp; omega
    have HX := Hd.mk fun r (hc : cn r = x) => of_cn hc hn
    generalize fexp x = Z at *
    clear hp1 hp2 q1 q2 q3 q4 e
    have o2 : (FloatKind.f64.format.order x x != some .eq) = false := by rw [bne, o1]; rfl
    have tt : ((x : Int) == x) = true := by simp
    go_enter Try.func12, Try.ntmps12
    go_wp2_with fail
    refine (HE.out _).mono ?_; rintro en w1 ⟨r, rfl, hr, hc, hb⟩
    obtain ⟨y1, y2⟩ := HY.out r hr hc
    have B1 := Hd.mk hb
    clear hr hc hb
    go_wp2_with fail
    refine (H1.out _).mono ?_; rintro en w2 ⟨r1, k, rfl, hr, hc, rfl⟩
    obtain rfl := HX.out r1 hc
    have B2 := Hd.mk (below_drewN B1.out k)
    clear hr hc
    go_wp2_with fail
    refine (H0.out _).mono ?_; rintro en w2 ⟨r0, k0, rfl, hr, hc, rfl⟩
    obtain rfl := of_cn hc (by decide +kernel)
    have B3 := Hd.mk (below_drewN B1.out (k + k0))
    clear hr hc
    go_wp2_with (first | (go_at_call 18; refine (apiBits_any _ _).mono ?_; rintro en w' ⟨rfl, rfl⟩) | fail)
    refine (awake4_any _).mono ?_; rintro en w3 ⟨rfl, hb⟩
    have B4 := Hd.mk (B3.out.trans (hb.mono B3.out.size))
    clear hb
    go_wp2_with fail
    go_ret
    exact ⟨rfl, B4.out⟩
  · have e : cn x = NaNc := cn_nan x hn
    have o1 : (FloatKind.f64.format.order x x == some .eq) = false := by rw [feq x x hx hx, hn]; simp
    have o2 : (FloatKind.f64.format.order x x != some .eq) = true := by rw [bne, o1]; rfl
    have fm : fmul oneW NaNc = NaNc := fmul_nr oneW NaNc F64_NaNc nn_NaNc
    have fx : fexp (cn x) = NaNc := by unfold fexp; rw [nn_cn, hn, if_pos rfl]
    rw [fx] at HE
    rw [e, fm] at H1
    have HY := Hd.mk fun r (hr : F64 r) (hc : cn r = NaNc) => show (FloatKind.f64.format.order r r == some .eq) = false ∧ (FloatKind.f64.format.order r r != some .eq) = true ∧ (FloatKind.f64.format.order r 0 == some .lt) = false from by
      have hr1 : nn r = true := by rw [← nn_cn, hc]; exact nn_NaNc
      rw [bne, feq _ _ hr hr, flt _ _ hr F0, hr1]
      exact ⟨by simp, by simp, by simp⟩
    clear q1 q2 q3 q4 e fm fx hn
    go_enter Try.func12, Try.ntmps12
    go_wp2_with fail
    refine (HE.out _).mono ?_; rintro en w1 ⟨r, rfl, hr, hc, hb⟩
    obtain ⟨y1, y2, y3⟩ := HY.out r hr hc
    have B1 := Hd.mk hb
    clear hr hc hb
    go_wp2_with fail
    refine (H1.out _).mono ?_; rintro en w2 ⟨r1, k, rfl, hr, hc, rfl⟩
    obtain ⟨z1, z2, z3⟩ := HY.out r1 hr hc
    have B2 := Hd.mk (below_drewN B1.out k)
    clear hr hc
    go_wp2_with fail
    refine (H0.out _).mono ?_; rintro en w2 ⟨r0, k0, rfl, hr, hc, rfl⟩
    obtain rfl := of_cn hc (by decide +kernel)
    have B3 := Hd.mk (below_drewN B1.out (k + k0))
    clear hr hc
    go_wp2_with (first | (go_at_call 18; refine (apiBits_any _ _).mono ?_; rintro en w' ⟨rfl, rfl⟩) | fail)
    refine (awake4_any _).mono ?_; rintro en w3 ⟨rfl, hb⟩
    have B4 := Hd.mk (B3.out.trans (hb.mono B3.out.size))
    clear hb
    go_wp2_with fail
    go_ret
    exact ⟨rfl, B4.out⟩

end Go.Proofs.Ytjhkjekbadbgnaa
