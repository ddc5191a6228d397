/- The reference's Yield (tenorref9) where the kind and the numbers are right. -/
import Derived.Test.YtpegicgahbambaaGreatGrC
namespace Go.Proofs.YtpegicgahbambaaGreat
open Go.RowKit
set_option linter.unusedSimpArgs false
set_option linter.unusedVariables false

theorem endY_no (Z : Nat) (h : fin Z = false) : endY Z = (0, 91) := by unfold endY; rw [if_pos h]
theorem endY_ok (Z : Nat) (h : fin Z = true) : endY Z = (Z, 0) := by unfold endY; rw [if_neg (by rw [h]; decide)]
theorem rt1Y (f t : Nat) : rtY 1 f t = fdiv (fsub (fdiv oneW f) oneW) t := by unfold rtY; rw [if_pos rfl]
theorem rt6Y (f t : Nat) : rtY 6 f t = fdiv (flip64 (fln f)) t := by unfold rtY; rw [if_neg (by decide), if_pos rfl]
theorem rtkY (k : Int) (f t : Nat) (h1 : k ≠ 1) (h6 : k ≠ 6) : rtY k f t = fmul (rtM k) (fsub (fexp (fdiv (flip64 (fln f)) (fmul (rtM k) t))) oneW) := by unfold rtY; rw [if_neg h1, if_neg h6]




set_option maxHeartbeats 3200000 in
set_option maxRecDepth 100000 in
theorem rYield_one (f t : Nat) (hf : F64 f) (ht : F64 t) (hin : yldIn f t = true) (w : World) :
    Calls Tryz.prog 23 #[.int .i64 1, .int .u64 f, .int .u64 t] w (AnsRet (endY (rtY 1 f t)) w) := by
  obtain ⟨k, hk1⟩ : ∃ k : Int, k = 1 := ⟨1, rfl⟩
  have hk : okK k = true := by rw [hk1]; decide
  obtain ⟨p1, p2, p3, p4, p5⟩ := yldIn_parts f t hin
  have HK := Hd.mk (kind9_any k)
  have HF := Hd.mk (rNumber_any f hf)
  have HT := Hd.mk (rNumber_any t ht)
  have HA1 := Hd.mk (above9_any f hf)
  have HA2 := Hd.mk (above9_any t ht)
  have HO := Hd.mk (long9_any t ht)
  have HTi := Hd.mk (times9_any k)
  have HI := Hd.mk (ex_int k)
  rw [p1] at HF
  rw [p2] at HA1
  rw [p3] at HT
  rw [p4] at HA2
  rw [p5] at HO
  rw [hk] at HK
  clear p1 p2 p3 p4 p5 hin hk
  obtain ⟨A, hA⟩ : ∃ A, endY (rtY 1 f t) = A := ⟨_, rfl⟩
  rw [hA]
  have HA0 := Hd.mk hA
  have HE := Hd.mk (rt1Y f t)
  clear hA
  subst hk1
  go_enter Tryz.func23, Tryz.ntmps23
  go_wp2_with fail
  refine (HK.out _).mono ?_; rintro e w' ⟨rfl, rfl⟩
  go_wp2_with fail
  refine (HF.out _).mono ?_; rintro e w' ⟨rfl, rfl⟩
  go_wp2_with fail
  refine (HA1.out _).mono ?_; rintro e w' ⟨rfl, rfl⟩
  go_wp2_with fail
  refine (HT.out _).mono ?_; rintro e w' ⟨rfl, rfl⟩
  go_wp2_with fail
  refine (HA2.out _).mono ?_; rintro e w' ⟨rfl, rfl⟩
  go_wp2_with fail
  refine (HO.out _).mono ?_
  rintro en w1 ⟨rfl, hb⟩
  have B1 := Hd.mk hb
  clear hb
  go_wp2_with fail
  refine (HTi.out _).mono ?_
  rintro en w' ⟨rfl, rfl⟩
  go_wp2_with fail
  refine (HI.out _).mono ?_
  rintro en w2 ⟨m, rfl, HM, FM, hb⟩
  have B2 := Hd.mk (B1.out.trans (hb.out.mono B1.out.size))
  clear hb
  go_wp2_with fail
  refine (ex_ln f hf _).mono ?_
  rintro en w3 ⟨l0, rfl, HL0, FL0, hb⟩
  have B3 := Hd.mk (B2.out.trans (hb.out.mono B2.out.size))
  clear hb
  go_wp2_with fail
  refine (ex_flip l0 FL0 _).mono ?_
  rintro en w4 ⟨l, rfl, HL, FL, hb⟩
  have B4 := Hd.mk (B3.out.trans (hb.out.mono B3.out.size))
  clear hb
  go_wp2_with fail
  refine (ex_div oneW f one_w.w hf _).mono ?_
  rintro en w5 ⟨q1, rfl, HQ1, FQ1, hb⟩
  have B5 := Hd.mk (B4.out.trans (hb.out.mono B4.out.size))
  clear hb
  go_wp2_with fail
  refine (ex_sub q1 oneW FQ1 one_w.w _).mono ?_
  rintro en w6 ⟨q2, rfl, HQ2, FQ2, hb⟩
  have B6 := Hd.mk (B5.out.trans (hb.out.mono B5.out.size))
  clear hb
  go_wp2_with fail
  refine (ex_div q2 t FQ2 ht _).mono ?_
  rintro en wQ ⟨q, rfl, HQ, FQ, hb⟩
  have BQ := Hd.mk (B6.out.trans (hb.out.mono B6.out.size))
  clear hb
  have HA : Hd (endY q = A) := ⟨by rw [← HA0.out, HE.out, HQ.out, HQ2.out, HQ1.out]⟩
  clear HA0 HQ
  have HNq := Hd.mk (rNumber_any q FQ)
  cases hq : fin q
  · rw [hq] at HNq
    obtain rfl : (0, 91) = A := by rw [← HA.out, endY_no q hq]
    clear hq
    go_wp2_with fail
    refine (HNq.out _).mono ?_
    rintro e w' ⟨rfl, rfl⟩
    go_wp2_with fail
    go_ret2
    exact ⟨rfl, BQ.out⟩
  · rw [hq] at HNq
    obtain rfl : (q, 0) = A := by rw [← HA.out, endY_ok q hq]
    clear hq
    go_wp2_with fail
    refine (HNq.out _).mono ?_
    rintro e w' ⟨rfl, rfl⟩
    go_wp2_with fail
    go_ret2
    exact ⟨rfl, BQ.out⟩

set_option maxHeartbeats 3200000 in
set_option maxRecDepth 100000 in
theorem rYield_six (f t : Nat) (hf : F64 f) (ht : F64 t) (hin : yldIn f t = true) (w : World) :
    Calls Tryz.prog 23 #[.int .i64 6, .int .u64 f, .int .u64 t] w (AnsRet (endY (rtY 6 f t)) w) := by
  obtain ⟨k, hk1⟩ : ∃ k : Int, k = 6 := ⟨6, rfl⟩
  have hk : okK k = true := by rw [hk1]; decide
  obtain ⟨p1, p2, p3, p4, p5⟩ := yldIn_parts f t hin
  have HK := Hd.mk (kind9_any k)
  have HF := Hd.mk (rNumber_any f hf)
  have HT := Hd.mk (rNumber_any t ht)
  have HA1 := Hd.mk (above9_any f hf)
  have HA2 := Hd.mk (above9_any t ht)
  have HO := Hd.mk (long9_any t ht)
  have HTi := Hd.mk (times9_any k)
  have HI := Hd.mk (ex_int k)
  rw [p1] at HF
  rw [p2] at HA1
  rw [p3] at HT
  rw [p4] at HA2
  rw [p5] at HO
  rw [hk] at HK
  clear p1 p2 p3 p4 p5 hin hk
  obtain ⟨A, hA⟩ : ∃ A, endY (rtY 6 f t) = A := ⟨_, rfl⟩
  rw [hA]
  have HA0 := Hd.mk hA
  have HE := Hd.mk (rt6Y f t)
  clear hA
  subst hk1
  go_enter Tryz.func23, Tryz.ntmps23
  go_wp2_with fail
  refine (HK.out _).mono ?_; rintro e w' ⟨rfl, rfl⟩
  go_wp2_with fail
  refine (HF.out _).mono ?_; rintro e w' ⟨rfl, rfl⟩
  go_wp2_with fail
  refine (HA1.out _).mono ?_; rintro e w' ⟨rfl, rfl⟩
  go_wp2_with fail
  refine (HT.out _).mono ?_; rintro e w' ⟨rfl, rfl⟩
  go_wp2_with fail
  refine (HA2.out _).mono ?_; rintro e w' ⟨rfl, rfl⟩
  go_wp2_with fail
  refine (HO.out _).mono ?_
  rintro en w1 ⟨rfl, hb⟩
  have B1 := Hd.mk hb
  clear hb
  go_wp2_with fail
  refine (HTi.out _).mono ?_
  rintro en w' ⟨rfl, rfl⟩
  go_wp2_with fail
  refine (HI.out _).mono ?_
  rintro en w2 ⟨m, rfl, HM, FM, hb⟩
  have B2 := Hd.mk (B1.out.trans (hb.out.mono B1.out.size))
  clear hb
  go_wp2_with fail
  refine (ex_ln f hf _).mono ?_
  rintro en w3 ⟨l0, rfl, HL0, FL0, hb⟩
  have B3 := Hd.mk (B2.out.trans (hb.out.mono B2.out.size))
  clear hb
  go_wp2_with fail
  refine (ex_flip l0 FL0 _).mono ?_
  rintro en w4 ⟨l, rfl, HL, FL, hb⟩
  have B4 := Hd.mk (B3.out.trans (hb.out.mono B3.out.size))
  clear hb
  go_wp2_with fail
  refine (ex_div l t FL ht _).mono ?_
  rintro en wQ ⟨q, rfl, HQ, FQ, hb⟩
  have BQ := Hd.mk (B4.out.trans (hb.out.mono B4.out.size))
  clear hb
  have HA : Hd (endY q = A) := ⟨by rw [← HA0.out, HE.out, HQ.out, HL.out, HL0.out]⟩
  clear HA0 HQ
  have HNq := Hd.mk (rNumber_any q FQ)
  cases hq : fin q
  · rw [hq] at HNq
    obtain rfl : (0, 91) = A := by rw [← HA.out, endY_no q hq]
    clear hq
    go_wp2_with fail
    refine (HNq.out _).mono ?_
    rintro e w' ⟨rfl, rfl⟩
    go_wp2_with fail
    go_ret2
    exact ⟨rfl, BQ.out⟩
  · rw [hq] at HNq
    obtain rfl : (q, 0) = A := by rw [← HA.out, endY_ok q hq]
    clear hq
    go_wp2_with fail
    refine (HNq.out _).mono ?_
    rintro e w' ⟨rfl, rfl⟩
    go_wp2_with fail
    go_ret2
    exact ⟨rfl, BQ.out⟩

set_option maxHeartbeats 3200000 in
set_option maxRecDepth 100000 in
theorem rYield_more (k : Int) (f t : Nat) (hf : F64 f) (ht : F64 t) (hk : okK k = true) (h1 : k ≠ 1) (h6 : k ≠ 6) (hin : yldIn f t = true) (w : World) :
    Calls Tryz.prog 23 #[.int .i64 k, .int .u64 f, .int .u64 t] w (AnsRet (endY (rtY k f t)) w) := by
  obtain ⟨p1, p2, p3, p4, p5⟩ := yldIn_parts f t hin
  have HK := Hd.mk (kind9_any k)
  have HF := Hd.mk (rNumber_any f hf)
  have HT := Hd.mk (rNumber_any t ht)
  have HA1 := Hd.mk (above9_any f hf)
  have HA2 := Hd.mk (above9_any t ht)
  have HO := Hd.mk (long9_any t ht)
  have HTi := Hd.mk (times9_any k)
  have HI := Hd.mk (ex_int k)
  rw [p1] at HF
  rw [p2] at HA1
  rw [p3] at HT
  rw [p4] at HA2
  rw [p5] at HO
  rw [hk] at HK
  clear p1 p2 p3 p4 p5 hin hk
  obtain ⟨A, hA⟩ : ∃ A, endY (rtY k f t) = A := ⟨_, rfl⟩
  rw [hA]
  have HA0 := Hd.mk hA
  have HE := Hd.mk (rtkY k f t h1 h6)
  have e1 : (k == 1) = false := by simpa using h1
  have e6 : (k == 6) = false := by simpa using h6
  clear hA h1 h6
  go_enter Tryz.func23, Tryz.ntmps23
  go_wp2_with fail
  refine (HK.out _).mono ?_; rintro e w' ⟨rfl, rfl⟩
  go_wp2_with fail
  refine (HF.out _).mono ?_; rintro e w' ⟨rfl, rfl⟩
  go_wp2_with fail
  refine (HA1.out _).mono ?_; rintro e w' ⟨rfl, rfl⟩
  go_wp2_with fail
  refine (HT.out _).mono ?_; rintro e w' ⟨rfl, rfl⟩
  go_wp2_with fail
  refine (HA2.out _).mono ?_; rintro e w' ⟨rfl, rfl⟩
  go_wp2_with fail
  refine (HO.out _).mono ?_
  rintro en w1 ⟨rfl, hb⟩
  have B1 := Hd.mk hb
  clear hb
  go_wp2_with fail
  refine (HTi.out _).mono ?_
  rintro en w' ⟨rfl, rfl⟩
  go_wp2_with fail
  refine (HI.out _).mono ?_
  rintro en w2 ⟨m, rfl, HM, FM, hb⟩
  have B2 := Hd.mk (B1.out.trans (hb.out.mono B1.out.size))
  clear hb
  go_wp2_with fail
  refine (ex_ln f hf _).mono ?_
  rintro en w3 ⟨l0, rfl, HL0, FL0, hb⟩
  have B3 := Hd.mk (B2.out.trans (hb.out.mono B2.out.size))
  clear hb
  go_wp2_with fail
  refine (ex_flip l0 FL0 _).mono ?_
  rintro en w4 ⟨l, rfl, HL, FL, hb⟩
  have B4 := Hd.mk (B3.out.trans (hb.out.mono B3.out.size))
  clear hb
  go_wp2_with fail
  refine (ex_mul m t FM ht _).mono ?_
  rintro en w5 ⟨q1, rfl, HQ1, FQ1, hb⟩
  have B5 := Hd.mk (B4.out.trans (hb.out.mono B4.out.size))
  clear hb
  go_wp2_with fail
  refine (ex_div l q1 FL FQ1 _).mono ?_
  rintro en w6 ⟨q2, rfl, HQ2, FQ2, hb⟩
  have B6 := Hd.mk (B5.out.trans (hb.out.mono B5.out.size))
  clear hb
  go_wp2_with fail
  refine (ex_exp q2 FQ2 _).mono ?_
  rintro en w7 ⟨q3, rfl, HQ3, FQ3, hb⟩
  have B7 := Hd.mk (B6.out.trans (hb.out.mono B6.out.size))
  clear hb
  go_wp2_with fail
  refine (ex_sub q3 oneW FQ3 one_w.w _).mono ?_
  rintro en w8 ⟨q4, rfl, HQ4, FQ4, hb⟩
  have B8 := Hd.mk (B7.out.trans (hb.out.mono B7.out.size))
  clear hb
  go_wp2_with fail
  refine (ex_mul m q4 FM FQ4 _).mono ?_
  rintro en wQ ⟨q, rfl, HQ, FQ, hb⟩
  have BQ := Hd.mk (B8.out.trans (hb.out.mono B8.out.size))
  clear hb
  have HA : Hd (endY q = A) := ⟨by rw [← HA0.out, HE.out, HQ.out, HQ4.out, HQ3.out, HQ2.out, HQ1.out, HL.out, HL0.out, HM.out]⟩
  clear HA0 HQ
  have HNq := Hd.mk (rNumber_any q FQ)
  cases hq : fin q
  · rw [hq] at HNq
    obtain rfl : (0, 91) = A := by rw [← HA.out, endY_no q hq]
    clear hq
    go_wp2_with fail
    refine (HNq.out _).mono ?_
    rintro e w' ⟨rfl, rfl⟩
    go_wp2_with fail
    go_ret2
    exact ⟨rfl, BQ.out⟩
  · rw [hq] at HNq
    obtain rfl : (q, 0) = A := by rw [← HA.out, endY_ok q hq]
    clear hq
    go_wp2_with fail
    refine (HNq.out _).mono ?_
    rintro e w' ⟨rfl, rfl⟩
    go_wp2_with fail
    go_ret2
    exact ⟨rfl, BQ.out⟩

theorem rYield_any (k : Int) (f t : Nat) (hf : F64 f) (ht : F64 t) (w : World) :
    Calls Tryz.prog 23 #[.int .i64 k, .int .u64 f, .int .u64 t] w (AnsRet (yldA k f t) w) := by
  cases hno : (okK k && yldIn f t)
  · exact rYield_arg k f t hf ht w hno
  · rw [Bool.and_eq_true] at hno
    obtain ⟨hk, hin⟩ := hno
    rw [yldA_eq k f t hk hin]
    by_cases h1 : k = 1
    · subst h1; exact rYield_one f t hf ht hin w
    by_cases h6 : k = 6
    · subst h6; exact rYield_six f t hf ht hin w
    exact rYield_more k f t hf ht hk h1 h6 hin w

end Go.Proofs.YtpegicgahbambaaGreat
