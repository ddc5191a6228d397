/- FnWhole's walk. -/
import Derived.Test.YtjhkjekbadbgnaaFwC
namespace Go.Proofs.Ytjhkjekbadbgnaa
open Go.RowKit
set_option linter.unusedSimpArgs false
set_option linter.unusedVariables false

/-- The second half: powers of 2. -/
structure P2F (k : Int) (T PW : Nat) : Prop where
  k1 : -1022 ≤ k
  k2 : k ≤ 1023
  t : k + 1023 = (T : Int)
  b : T ≤ 2046
  e : ((PW : Int) != (T : Int) * 4503599627370496) = false
  f : F64 PW
  n : nn PW = false
  c : ∀ w, Calls Try.prog 33 #[.float .f64 4611686018427387904, .int .i64 k] w (FRet PW w)

theorem p2_facts (k : Int) (h1 : -1022 ≤ k) (h2 : k ≤ 1023) : ∃ T PW, P2F k T PW := by
  have hr := p2_row k h1 h2
  refine ⟨(k + 1023).toNat, p2W k, h1, h2, by omega, by omega, ?_, hr.w, nn_fin _ hr.f, fun w => ?_⟩
  · rw [bne, Bool.not_eq_false', beq_iff_eq]; unfold p2W; omega
  · have := pow_any 4611686018427387904 k ⟨by decide⟩ w
    rwa [show cn 4611686018427387904 = twoW from cn_cns.2.1, pow_two k h1 h2] at this

set_option maxRecDepth 100000 in
set_option maxHeartbeats 16000000 in
theorem fnWhole_bad (x n k : Int) (w : World) (hA : n < 0 ∨ (0 ≤ n ∧ 60 < n) ∨ (0 ≤ n ∧ n ≤ 60 ∧ x ≤ -536870912) ∨ (0 ≤ n ∧ n ≤ 60 ∧ -536870912 < x ∧ 536870912 ≤ x)) :
    Calls Try.prog 13 #[.int .i64 x, .int .i64 n, .int .i64 k] w fun e w' => e = .returned (.bool true) ∧ Below w.heap.size w w' := by
  by_cases hm : -1022 ≤ k ∧ k ≤ 1023
  · obtain ⟨k1, k2⟩ := hm
    obtain ⟨T, PW, H⟩ := p2_facts k k1 k2
    have HT := H.t
    have HE := H.e
    have hb : (T : Int) ≤ 2046 := by have := H.b; omega
    have hb0 : (0 : Int) ≤ T := by omega
    have HC := Hd.mk H.c
    have HN := Hd.mk H.n
    clear H
    rcases hA with h | ⟨h, h'⟩ | ⟨h, h', h''⟩ | ⟨h, h', h'', h3⟩
    all_goals
      go_enter Try.func13, Try.ntmps13
      go_wp2_with fail
      refine (HC.out _).mono ?_; rintro en w1 ⟨r, q, rfl, hr, hc, rfl⟩
      obtain rfl := of_cn hc HN.out
      clear hr hc
      go_wp2_with fail
      refine (apiBits_any _ _).mono ?_; rintro en w' ⟨rfl, rfl⟩
      go_wp2_with fail
      refine (awake4_any _).mono ?_; rintro en w3 ⟨rfl, hb⟩
      have B3 := Hd.mk ((below_drewN (Below.refl w.heap.size w) q).trans hb)
      clear hb
      go_wp2_with fail
      go_ret
      exact ⟨rfl, B3.out⟩
  · rcases hA with h | ⟨h, h'⟩ | ⟨h, h', h''⟩ | ⟨h, h', h'', h3⟩ <;> rcases (by omega : k < -1022 ∨ (-1022 ≤ k ∧ 1023 < k)) with g | ⟨g, g'⟩
    all_goals
      clear hm
      go_enter Try.func13, Try.ntmps13
      go_wp2_with fail
      refine (awake4_any _).mono ?_; rintro en w3 ⟨rfl, hb⟩
      have B3 := Hd.mk hb
      clear hb
      go_wp2_with fail
      go_ret
      exact ⟨rfl, B3.out⟩

/-- What the loop of FnWhole has found. -/
def WhR (x : Int) (i : Nat) (fits : Bool) (p : Int) : Prop := (fits = true → p = x ^ i ∧ ∀ j, j ≤ i → (x ^ j).natAbs < 8589934592)

theorem whR_start (x : Int) : WhR x 0 true 1 := fun _ => ⟨by rw [Int.pow_zero], fun j hj => by
  obtain rfl : j = 0 := by omega
  rw [Int.pow_zero]; decide⟩
theorem whR_step (x : Int) (i : Nat) (p : Int) (h : WhR x i true p) : WhR x (i + 1) (decide (-8589934592 < p * x) && decide (p * x < 8589934592)) (p * x) := by
  obtain ⟨h1, h2⟩ := h rfl
  intro hf
  simp only [Bool.and_eq_true, decide_eq_true_eq] at hf
  subst h1
  refine ⟨by rw [Int.pow_succ], fun j hj => ?_⟩
  rcases (by omega : j ≤ i ∨ j = i + 1) with hj | rfl
  · exact h2 j hj
  · rw [Int.pow_succ]; omega

/-- The first half's call, where all powers fit. -/
theorem wh_pow (x : Int) (N : Nat) (hx : x.natAbs < 536870912) (hN : N ≤ 60) (h : ∀ j, j ≤ N → (x ^ j).natAbs < 8589934592) :
    ∃ R, F64 R ∧ nn R = false ∧ (FloatKind.f64.format.order R (floatOfInt .f64 (x ^ N)) != some .eq) = false ∧
      ∀ w, Calls Try.prog 33 #[.float .f64 (floatOfInt .f64 x), .int .i64 N] w (FRet R w) := by
  obtain ⟨s, f, g⟩ := pow_whole x N hx h hN
  obtain ⟨xs, xf, xg, _⟩ := int_float x (by omega) (by omega)
  have hp := h N (Nat.le_refl _)
  obtain ⟨ys, yf, yg, _⟩ := int_float (x ^ N) (by omega) (by omega)
  refine ⟨_, f, nn_fin _ g, ?_, fun w => ?_⟩
  · rw [bne, feq _ _ f yg, nn_fin _ g, nn_fin _ yf, SV_inj (s.trans ys.symm)]; simp
  · have := pow_any (floatOfInt .f64 x) N xg w
    rw [cn_of _ (nn_fin _ xf)] at this
    have e : fpow (floatOfInt .f64 x) N = powF 64 N oneW (floatOfInt .f64 x) := by
      unfold fpow; rw [if_neg (by omega), if_neg (by omega), Int.natAbs_natCast]
    rwa [e] at this

set_option maxRecDepth 100000 in
set_option maxHeartbeats 16000000 in
theorem fnWhole_good (x k : Int) (N : Nat) (w : World) (hN : N ≤ 60) (x1 : -536870912 < x) (x2 : x < 536870912) (hk : (k < -1022 ∨ (-1022 ≤ k ∧ 1023 < k)) ∨ (∃ T PW, P2F k T PW)) :
    Calls Try.prog 13 #[.int .i64 x, .int .i64 N, .int .i64 k] w fun e w' => e = .returned (.bool true) ∧ Below w.heap.size w w' := by
  have HP := Hd.mk (wh_pow x N (by omega) hN)
  have n0 : (0 : Int) ≤ N := by omega
  have n1 : (N : Int) ≤ 60 := by omega
  have HK := Hd.mk hk
  have HN' := Hd.mk hN
  clear hk hN
  go_enter Try.func13, Try.ntmps13
  go_wp2_with fail
  go_loop [7, 8, 9] (fun pv fv iv => ∃ (i : Nat) (fits : Bool) (p : Int), i ≤ N ∧ iv = .int .i64 i ∧ fv = .bool fits ∧ pv = .int .i64 p ∧ Hd (WhR x i fits p) ∧ -4611686018427387904 ≤ p ∧ p ≤ 4611686018427387904) (fun _ _ iv => N - (intOf iv).toNat)
  case atStart => exact ⟨0, true, 1, Nat.zero_le _, rfl, rfl, rfl, ⟨whR_start x⟩, by decide, by decide⟩
  case round =>
    obtain ⟨i, fits, p, hi, rfl, rfl, rfl, HR, p1, p2⟩ := hrel
    cases fits
    · -- some power does not fit: nothing is asked
      have HN2 : Hd (i < N ∨ i = N) := ⟨by omega⟩
      rcases HK.out with hk | ⟨T, PW, H⟩
      · rcases hk with g | ⟨g, g'⟩ <;> rcases HN2.out with hlt | rfl
        all_goals
          try (have hlt' : (i : Int) < N := by omega)
          go_wp2_with fail
          refine (awake4_any _).mono ?_; rintro en w3 ⟨rfl, hb⟩
          have B3 := Hd.mk (Below.trans (Below.refl w.heap.size w) hb)
          clear hb
          go_wp2_with fail
          go_ret
          exact ⟨rfl, B3.out⟩
      · have k1 := H.k1
        have k2 := H.k2
        have HT := H.t
        have HE := H.e
        have hb : (T : Int) ≤ 2046 := by have := H.b; omega
        have hb0 : (0 : Int) ≤ T := by omega
        have HC := Hd.mk H.c
        have HN := Hd.mk H.n
        clear H
        rcases HN2.out with hlt | rfl
        all_goals
          try (have hlt' : (i : Int) < N := by omega)
          go_wp2_with fail
          refine (HC.out _).mono ?_; rintro en v1 ⟨r, q, rfl, hr, hc, rfl⟩
          obtain rfl := of_cn hc HN.out
          clear hr hc
          go_wp2_with fail
          refine (apiBits_any _ _).mono ?_; rintro en w' ⟨rfl, rfl⟩
          go_wp2_with fail
          refine (awake4_any _).mono ?_; rintro en w3 ⟨rfl, hb⟩
          have B3 := Hd.mk ((below_drewN (Below.refl w.heap.size w) q).trans hb)
          clear hb
          go_wp2_with fail
          go_ret
          exact ⟨rfl, B3.out⟩
    · by_cases hlt : i < N
      · have HS := Hd.mk (whR_step x i p HR.out)
        obtain ⟨r1, r2⟩ := HR.out rfl
        have r3 := r2 i (Nat.le_refl _)
        rw [← r1] at r3
        have hq1 : -4611686018427387904 ≤ p * x ∧ p * x ≤ 4611686018427387904 := by
          have a : (p * x).natAbs ≤ 8589934592 * 536870912 := by
            rw [Int.natAbs_mul]; exact Nat.mul_le_mul (by omega) (by omega)
          omega
        clear r1 r2 r3
        obtain ⟨q, hq⟩ : ∃ q, p * x = q := ⟨_, rfl⟩
        rw [hq] at HS hq1
        obtain ⟨q1, q2⟩ := hq1
        have hlt' : (i : Int) < N := by omega
        have i0 : (0 : Int) ≤ i := by omega
        clear HR
        go_wp2_with fail
        · have g : -8589934592 < q := by assumption
          have H := HS.out
          rw [show decide (-8589934592 < q) = true by simpa using g, Bool.true_and] at H
          refine ⟨⟨i + 1, _, q, by omega, by go_num, rfl, rfl, ⟨H⟩, q1, q2⟩, by simp [intOf]; omega⟩
        · have g : ¬ -8589934592 < q := by assumption
          have H := HS.out
          rw [show decide (-8589934592 < q) = false by simpa using g, Bool.false_and] at H
          refine ⟨⟨i + 1, _, q, by omega, by go_num, rfl, rfl, ⟨H⟩, q1, q2⟩, by simp [intOf]; omega⟩
      · obtain rfl : i = N := by omega
        obtain ⟨r1, r2⟩ := HR.out rfl
        obtain ⟨R, rf, rn, ro, rc⟩ := HP.out r2
        rw [← r1] at ro
        have HRc := Hd.mk rc
        have HRn := Hd.mk rn
        have HRf := Hd.mk rf
        clear r1 r2 rc rn rf HP hlt HR
        rcases HK.out with hk | ⟨T, PW, H⟩
        · rcases hk with g | ⟨g, g'⟩
          all_goals
            go_wp2_with fail
            refine (HRc.out _).mono ?_; rintro en w1 ⟨rr, q0, rfl, hr, hc, rfl⟩
            obtain rfl := of_cn hc HRn.out
            clear hr hc
            go_wp2_with fail
            refine (awake4_any _).mono ?_; rintro en w3 ⟨rfl, hb⟩
            have B3 := Hd.mk (Below.trans (below_drewN (Below.refl w.heap.size w) q0) hb)
            clear hb
            go_wp2_with fail
            go_ret
            exact ⟨rfl, B3.out⟩
        · have k1 := H.k1
          have k2 := H.k2
          have HT := H.t
          have HE := H.e
          have hb : (T : Int) ≤ 2046 := by have := H.b; omega
          have hb0 : (0 : Int) ≤ T := by omega
          have HC := Hd.mk H.c
          have HN := Hd.mk H.n
          clear H
          go_wp2_with fail
          refine (HRc.out _).mono ?_; rintro en w1 ⟨rr, q0, rfl, hr, hc, rfl⟩
          obtain rfl := of_cn hc HRn.out
          clear hr hc
          go_wp2_with fail
          refine (HC.out _).mono ?_; rintro en v1 ⟨r, q, rfl, hr, hc, rfl⟩
          obtain rfl := of_cn hc HN.out
          clear hr hc
          go_wp2_with fail
          refine (apiBits_any _ _).mono ?_; rintro en w' ⟨rfl, rfl⟩
          go_wp2_with fail
          refine (awake4_any _).mono ?_; rintro en w3 ⟨rfl, hb⟩
          have B3 := Hd.mk ((below_drewN (Below.refl w.heap.size w) (q0 + q)).trans hb)
          clear hb
          go_wp2_with fail
          go_ret
          exact ⟨rfl, B3.out⟩

theorem fnWhole_any (x n k : Int) (w : World) (hx : (Lit.int .i64 x).wf = true) (hn : (Lit.int .i64 n).wf = true) (hk : (Lit.int .i64 k).wf = true) :
    Calls Try.prog 13 #[.int .i64 x, .int .i64 n, .int .i64 k] w fun e w' => e = .returned (.bool true) ∧ Below w.heap.size w w' := by
  by_cases h : 0 ≤ n ∧ n ≤ 60 ∧ -536870912 < x ∧ x < 536870912
  · have := fnWhole_good x k n.toNat w (by omega) h.2.2.1 h.2.2.2 (by
      by_cases hm : -1022 ≤ k ∧ k ≤ 1023
      · exact .inr (p2_facts k hm.1 hm.2)
      · exact .inl (by omega))
    rwa [show ((n.toNat : Nat) : Int) = n by omega] at this
  · exact fnWhole_bad x n k w (by omega)

end Go.Proofs.Ytjhkjekbadbgnaa
