/- The walk of LifeFalls at a good curve. -/
import Derived.Test.YteikihidblcljaaQpC
namespace Go.Proofs.Yteikihidblcljaa
open Go.RowKit
set_option linter.unusedSimpArgs false
set_option linter.unusedVariables false

set_option maxHeartbeats 12800000 in
set_option maxRecDepth 100000 in
theorem lifeFalls_good (b kind : Int) (ax : Option Addr) (X : List Int) (cx : Nat) (ay : Option Addr) (Y : List Nat) (cy : Nat) (n : Int) (w : World) (ht : Tbl w ax X ay Y) (l1 : X.length ≤ 30) (l2 : Y.length ≤ 30) (hc : chkU b kind X Y = 0) :
    Calls Try.prog 6 #[.agg #[.int .i64 b, .int .i64 kind, .slice ax X.length cx, .slice ay Y.length cy], .int .i64 n] w fun e w' => e = .returned (.bool true) ∧ Below w.heap.size w w' := by
  have ok := chkU_ok hc
  have ln := ok.ln
  obtain ⟨W, hW, b1, b2⟩ := box_c w b kind ax X.length cx ay Y.length cy
  have HW := Hd.mk hW
  have B1 := Hd.mk b1
  have B2 := Hd.mk b2
  have T := Hd.mk (ht.belowK b2)
  have d1 : decide ((X.length : Int) > 30) = false := by simp; omega
  have HO := Hd.mk fun w1 (h : Tbl w1 ax X ay Y) => of11_any b kind ax X.length cx ay Y cy w1 h.fy (by omega)
  have HRl := Hd.mk fun w1 (h : Tbl w1 ax X ay Y) => lifeRoll_any b kind ax X cx ay Y cy b w1 h
  have HRn := Hd.mk fun w1 (h : Tbl w1 ax X ay Y) => lifeRoll_any b kind ax X cx ay Y cy n w1 h
  have HC := Hd.mk fun w1 (h : Tbl w1 ax X ay Y) => curveCheck_any b kind ax X cx ay Y cy w1 h
  have HSm := Hd.mk fun a1 c1 a2 c2 au cu w1 (h : Tbl w1 a1 X a2 Y) (h2 : Ins w1 ax X) (h3 : Us w1 au Y) => same11_any b kind a1 X c1 a2 Y c2 ax cx au cu w1 h h2 h3
  obtain ⟨e0, e1, e2, e3⟩ := roll_baseL ok ht.fy.wf
  have HW64 := Hd.mk ht.fy.wf
  have HOK := Hd.mk ok
  have HEW := Hd.mk (rollE_ways hc n)
  have HCk := Hd.mk hc
  unfold RollRet at HRl HRn
  unfold OfCRet at HO
  rw [e0, e1, e2, e3] at HRl
  rw [hc] at HC
  have n1 := ok.n1
  obtain ⟨m, hm⟩ : ∃ m, X.length = m := ⟨_, rfl⟩
  have HM := Hd.mk hm
  have HMY : Hd (Y.length = m) := ⟨by rw [ln, hm]⟩
  rw [ln, hm] at HO HRl HRn HC HSm B1 b1 HW
  rw [hm] at d1 l1 n1
  rw [ln, hm]
  obtain ⟨p0, p1, p2, p3⟩ := b1.cell
  clear hW b1 b2 ht l2 hc ok ln hm e0 e1 e2 e3
  go_enter Try.func6, Try.ntmps6
  go_upto_region 1 with fail
  rw [HW.out]
  go_wp2_with fail
  refine (HO.out _ T.out).mono ?_; rintro e w1 ⟨au, cu, rfl, hu, _, hb⟩
  obtain ⟨V, hV, v1, v2⟩ := box_v w1 b kind ax m cx au m cu
  have hbb := hb.trans (v2.mono hb.size)
  have HV := Hd.mk hV
  have C1 := Hd.mk (B2.out.trans (hbb.mono B2.out.size))
  have T1 := Hd.mk (T.out.belowK hbb)
  have U1 := Hd.mk (B1.out.below hbb)
  have S1 := Hd.mk v1
  have R1 := Hd.mk (hu.below v2)
  clear hV v1 v2 hb hbb hu p0 p1 p2 p3 HW B1 B2 T HO
  obtain ⟨p0, p1, p2, p3⟩ := U1.out.cell
  go_upto_region 4 with fail
  rw [HV.out]
  go_wp2_with fail
  refine (HRl.out _ T1.out).mono ?_
  rintro e w2 ⟨⟨_, g1, g2, mm, rfl, hmm, htr⟩ | ⟨h, _⟩, hb⟩
  rotate_left
  · exact absurd rfl h
  have hmm2 : mm = m := by rw [hmm]; exact Nat.sub_zero m
  subst hmm2
  obtain ⟨V2, hV2, v1, v2⟩ := box_c w2 b kind (some g1) mm mm (some g2) mm mm
  have hbb := hb.trans (v2.mono hb.size)
  have HV2 := Hd.mk hV2
  have C2 := Hd.mk (C1.out.trans (hbb.mono C1.out.size))
  have T2 := Hd.mk (T1.out.belowK hbb)
  have U2 := Hd.mk (U1.out.below hbb)
  have S2 := Hd.mk (S1.out.below hbb)
  have R2 := Hd.mk (R1.out.below hbb)
  have A2 := Hd.mk v1
  have Q2 := Hd.mk (htr.belowK v2)
  clear hV2 v1 v2 hb hbb htr hmm p0 p1 p2 p3 HV C1 T1 U1 S1 R1 HRl
  obtain ⟨p0, p1, p2, p3⟩ := U2.out.cell
  go_upto_region 5 with fail
  rw [HV2.out]
  go_wp2_with fail
  refine (HC.out _ T2.out).mono ?_; rintro e w3 ⟨rfl, hb⟩
  have C3 := Hd.mk (C2.out.trans (hb.mono C2.out.size))
  have T3 := Hd.mk (T2.out.belowK hb)
  have U3 := Hd.mk (U2.out.below hb)
  have S3 := Hd.mk (S2.out.below hb)
  have R3 := Hd.mk (R2.out.below hb)
  have A3 := Hd.mk (A2.out.below hb)
  have Q3 := Hd.mk (Q2.out.belowK hb)
  clear hb p0 p1 p2 p3 C2 T2 U2 S2 R2 A2 Q2 HV2
  obtain ⟨p0, p1, p2, p3⟩ := U3.out.cell
  obtain ⟨s0, s1, s2, s3⟩ := S3.out.cell
  obtain ⟨a0, a1, a2, a3⟩ := A3.out.cell
  go_wp2_with fail
  refine (HSm.out _ _ _ _ _ _ _ Q3.out T3.out.ix R3.out).mono ?_; rintro e w4 ⟨rfl, hb⟩
  have C4 := Hd.mk (C3.out.trans (hb.mono C3.out.size))
  have T4 := Hd.mk (T3.out.belowK hb)
  have U4 := Hd.mk (U3.out.below hb)
  clear hb p0 p1 p2 p3 s0 s1 s2 s3 a0 a1 a2 a3 C3 T3 U3 S3 R3 A3 Q3 HSm HC
  obtain ⟨p0, p1, p2, p3⟩ := U4.out.cell
  go_wp2_with fail
  refine (HRn.out _ T4.out).mono ?_
  rintro e w5 ⟨hcase, hb⟩
  have C5 := Hd.mk (C4.out.trans (hb.mono C4.out.size))
  have T5 := Hd.mk (T4.out.belowK hb)
  have U5 := Hd.mk (U4.out.below hb)
  clear hb p0 p1 p2 p3 C4 T4 U4 HRn
  rcases HEW.out with ⟨hz, hout⟩ | hz | ⟨hz, hin1, hin2, hq⟩
  · rw [hz] at hcase
    rcases hcase with ⟨h, _⟩ | ⟨_, rfl⟩
    · exact absurd h (by decide)
    obtain ⟨V3, hV3, v1, v2⟩ := box_c w5 0 0 none 0 0 none 0 0
    have HV3 := Hd.mk hV3
    have C6 := Hd.mk (C5.out.trans (v2.mono C5.out.size))
    have T6 := Hd.mk (T5.out.belowK v2)
    have U6 := Hd.mk (U5.out.below v2)
    clear hV3 v1 v2 C5 T5 U5 HEW hz
    unfold lastT at hout
    rw [HM.out] at hout
    obtain ⟨p0, p1, p2, p3⟩ := U6.out.cell
    obtain ⟨bx, ox, rfl, hcx⟩ := T6.out.ix.cell (mm - 1) (by rw [HM.out]; omega)
    generalize X.getD (mm - 1) 0 = L at *
    have i1 : ((mm : Int) - 1).toNat = mm - 1 := by omega
    have i2 : IntKind.i64.wrap ((mm : Int) - 1) = (mm : Int) - 1 := IntWalk.i64_in _ (by omega)
    have i3 : (0 : Int) ≤ (mm : Int) - 1 := by omega
    have i4 : (mm : Int) - 1 < mm := by omega
    have i5 : (1 : Int) ≤ mm := by omega
    by_cases hnb : n < b
    · have d5 := decide_eq_true hnb
      clear hout hnb
      go_upto_region 10 with fail
      rw [HV3.out]
      go_wp2_with fail
      refine (awake24_any _).mono ?_; rintro e w7 ⟨rfl, hb⟩
      have C7 := Hd.mk (C6.out.trans (hb.mono C6.out.size))
      clear hb
      go_wp2_with fail
      go_ret
      exact ⟨rfl, C7.out⟩
    · have d5 := decide_eq_false hnb
      have d6 : decide (L ≤ n) = true := decide_eq_true (by omega)
      clear hout hnb
      go_upto_region 10 with fail
      rw [HV3.out]
      go_wp2_with fail
      refine (awake24_any _).mono ?_; rintro e w7 ⟨rfl, hb⟩
      have C7 := Hd.mk (C6.out.trans (hb.mono C6.out.size))
      clear hb
      go_wp2_with fail
      go_ret
      exact ⟨rfl, C7.out⟩
  · rw [hz] at hcase
    rcases hcase with ⟨h, _⟩ | ⟨_, rfl⟩
    · exact absurd h (by decide)
    obtain ⟨V3, hV3, v1, v2⟩ := box_c w5 0 0 none 0 0 none 0 0
    have HV3 := Hd.mk hV3
    have C6 := Hd.mk (C5.out.trans (v2.mono C5.out.size))
    have U6 := Hd.mk (U5.out.below v2)
    clear hV3 v1 v2 C5 T5 U5 HEW hz
    obtain ⟨p0, p1, p2, p3⟩ := U6.out.cell
    go_upto_region 10 with fail
    rw [HV3.out]
    go_wp2_with fail
    refine (awake24_any _).mono ?_; rintro e w7 ⟨rfl, hb⟩
    have C7 := Hd.mk (C6.out.trans (hb.mono C6.out.size))
    clear hb
    go_wp2_with fail
    go_ret
    exact ⟨rfl, C7.out⟩
  rw [hz] at hcase
  rcases hcase with ⟨_, g1, g2, q, rfl, hq1, htr⟩ | ⟨h, _⟩
  rotate_left
  · exact absurd rfl h
  obtain ⟨x0, x1, x2, x3, -⟩ := rollX_ok HOK.out HW64.out hin1 (Int.le_of_lt hin2)
  have eF : facU b kind X Y n = (rollX b kind X Y n, 0) := by unfold facU; rw [if_pos HCk.out, x0]
  have HF := Hd.mk fun w1 (h : Tbl w1 ax X ay Y) => curveFactor_any b kind ax X cx ay Y cy n w1 h
  rw [eF] at HF
  unfold AtRet at HF
  obtain ⟨s1, s2, s3⟩ := kR_split HOK.out n
  have kl := kR_lt HOK.out hin2
  have hck2 := roll_chk HOK.out HW64.out hin1 hin2 hq
  have HFa := Hd.mk fun w1 (h : Tbl w1 ax X ay Y) => curveFalls_any b kind ax X cx ay Y cy w1 h
  have HFb := Hd.mk fun w1 h => curveFalls_any n kind (some g1) (rollD X n) q (some g2) (rollF X Y n (rollX b kind X Y n)) q w1 h
  unfold FallRet at HFa HFb
  rw [HCk.out] at HFa
  rw [hck2] at HFb
  have hst := fun h1 h2 => roll_falls HOK.out HW64.out hin1 hin2 hq h1 h2
  have lD : (rollD X n).length = q := by unfold rollD; rw [List.length_drop, HM.out]; exact hq1.symm
  have lF : (rollF X Y n (rollX b kind X Y n)).length = q := by unfold rollF; rw [List.length_map, List.length_drop, HMY.out]; exact hq1.symm
  have hDi : Hd (∀ i, i < q → (rollD X n).getD i 0 = X.getD (i + kR X n) 0) := ⟨fun i hi => by rw [getD_rollD (by rw [HM.out]; omega), Nat.add_comm]⟩
  have hFi : Hd (∀ i, i < q → (rollF X Y n (rollX b kind X Y n)).getD i 0 = fdiv (Y.getD (i + kR X n) 0) (rollX b kind X Y n)) := ⟨fun i hi => by rw [getD_rollF (by rw [HMY.out]; omega), Nat.add_comm]⟩
  have hw3 : mg (rollX b kind X Y n) ≠ 0 := (ng_of_pos x3).2
  have HQ : Hd (∀ i, i < X.length → ∀ w', fres .quo (Y.getD i 0) (rollX b kind X Y n) w' = fdiv (Y.getD i 0) (rollX b kind X Y n) ∧ w'.drewN (fcnt .quo (Y.getD i 0) (rollX b kind X Y n)) = w') := ⟨fun i hi w' => ⟨fres_quoQ (HW64.out i) x1 (HOK.out.fn i hi) x2 hw3 w', fcnt_quoQ (HW64.out i) x1 (HOK.out.fn i hi) x2 hw3 w'⟩⟩
  have HNN : Hd (∀ i, i < X.length → nn (fdiv (Y.getD i 0) (rollX b kind X Y n)) = false) := ⟨fun i hi => nnDiv (HW64.out i) x1 (nn_fin _ (HOK.out.fn i hi)) x2 hw3⟩
  have HS2 := Hd.mk s2
  have HLD := Hd.mk lD
  have HLF := Hd.mk lF
  rw [HM.out] at s1 kl HQ HNN HFa
  rw [HMY.out] at HFa
  rw [lD, lF] at HFb
  rw [HM.out, HMY.out] at HF
  simp only [decide_true, Bool.true_and] at HFa HFb
  generalize rollX b kind X Y n = x at *
  generalize rollF X Y n x = F2 at *
  generalize rollD X n = D2 at *
  generalize kR X n = k at *
  obtain ⟨V3, hV3, v1, v2⟩ := box_c w5 n kind (some g1) q q (some g2) q q
  have HV3 := Hd.mk hV3
  have C6 := Hd.mk (C5.out.trans (v2.mono C5.out.size))
  have T6 := Hd.mk (T5.out.belowK v2)
  have U6 := Hd.mk (U5.out.below v2)
  have A6 := Hd.mk v1
  have Q6 := Hd.mk (htr.belowK v2)
  clear hV3 v1 v2 C5 T5 U5 HEW hz htr x0 eF s2 s3 lD lF hq hin1 hin2 hw3 x1 x2 x3 hck2
  have q1 : 1 ≤ q := by omega
  have q2 : q ≤ mm := by omega
  have hsk : (mm : Int) - (q : Int) = (k : Int) := by omega
  have HQ1 := Hd.mk hq1
  clear hq1
  obtain ⟨p0, p1, p2, p3⟩ := U6.out.cell
  go_upto_region 10 with fail
  rw [HV3.out]
  clear HV3
  go_wp2_with fail
  refine (HF.out _ T6.out).mono ?_; rintro e w7 ⟨rfl, hb⟩
  have C7 := Hd.mk (C6.out.trans (hb.mono C6.out.size))
  have T7 := Hd.mk (T6.out.belowK hb)
  have U7 := Hd.mk (U6.out.below hb)
  have A7 := Hd.mk (A6.out.below hb)
  have Q7 := Hd.mk (Q6.out.belowK hb)
  clear hb p0 p1 p2 p3 C6 T6 U6 A6 Q6 HF
  obtain ⟨p0, p1, p2, p3⟩ := U7.out.cell
  go_wp2_with fail
  refine (HFa.out _ T7.out).mono ?_; rintro e w8 ⟨rfl, hb⟩
  have C8 := Hd.mk (C7.out.trans (hb.mono C7.out.size))
  have T8 := Hd.mk (T7.out.belowK hb)
  have U8 := Hd.mk (U7.out.below hb)
  have A8 := Hd.mk (A7.out.below hb)
  have Q8 := Hd.mk (Q7.out.belowK hb)
  clear hb p0 p1 p2 p3 C7 T7 U7 A7 Q7 HFa
  obtain ⟨a0, a1, a2, a3⟩ := A8.out.cell
  go_wp2_with fail
  refine (HFb.out _ Q8.out).mono ?_; rintro e w9 ⟨rfl, hb⟩
  have C9 := Hd.mk (C8.out.trans (hb.mono C8.out.size))
  have T9 := Hd.mk (T8.out.belowK hb)
  have U9 := Hd.mk (U8.out.below hb)
  have A9 := Hd.mk (A8.out.below hb)
  have Q9 := Hd.mk (Q8.out.belowK hb)
  clear hb a0 a1 a2 a3 C8 T8 U8 A8 Q8 HFb
  obtain ⟨a0, a1, a2, a3⟩ := A9.out.cell
  obtain ⟨p0, p1, p2, p3⟩ := U9.out.cell
  have hb3 : (flB Y = false) ∨ (flB Y = true ∧ (kind != 4) = false) ∨ (flB Y = true ∧ (kind != 4) = true ∧ flB F2 = true) := by
    cases hy : flB Y
    · exact Or.inl rfl
    · by_cases h4 : kind = 4
      · exact Or.inr (Or.inl ⟨rfl, by simp [h4]⟩)
      · exact Or.inr (Or.inr ⟨rfl, by simp [h4], hst h4 hy⟩)
  have hq0 : ((q : Int) == 0) = false := by simp; omega
  have hqm : decide (q ≤ mm) = true := by simpa using q2
  have hqm2 : decide (mm < q) = false := by simp; omega
  generalize flB Y = f1 at *
  generalize flB F2 = f2 at *
  clear hst
  rcases hb3 with rfl | ⟨rfl, h4⟩ | ⟨rfl, h4, rfl⟩
  all_goals
    go_upto_region 18 with fail
    go_wp2_with fail
    have K0 : Hd (Below w9.heap.size w9 w9) := ⟨Below.refl _ _⟩
    clear a0 a1 a2 a3 p0 p1 p2 p3
    go_loopw [17] (fun iv wr => ∃ i : Nat, i ≤ q ∧ iv = .int .i64 i ∧ Hd (Below w9.heap.size w9 wr)) (fun iv _ => q - (intOf iv).toNat)
    case atStart => exact ⟨0, Nat.zero_le _, rfl, K0⟩
    case round =>
      clear K0
      obtain ⟨i, hi, rfl, KB⟩ := hrel
      obtain ⟨p0, p1, p2, p3⟩ := (U9.out.below KB.out).cell
      obtain ⟨a0, a1, a2, a3⟩ := (A9.out.below KB.out).cell
      by_cases hlt : i < q
      · have hlt' : (i : Int) < q := by omega
        have k0 : (0 : Int) ≤ i := by omega
        have hqk : i + k < mm := by have := HQ1.out; omega
        obtain ⟨b1, o1, e1, c1⟩ := (Q9.out.belowK KB.out).ix.cell i (by rw [HLD.out]; exact hlt)
        obtain ⟨b2, o2, e2, c2⟩ := (Q9.out.belowK KB.out).fy.at i (by rw [HLF.out]; exact hlt)
        obtain ⟨b3, o3, rfl, c3⟩ := (T9.out.belowK KB.out).ix.cell (i + k) (by rw [HM.out]; exact hqk)
        obtain ⟨b4, o4, rfl, c4⟩ := (T9.out.belowK KB.out).fy.at (i + k) (by rw [HMY.out]; exact hqk)
        cases e1
        cases e2
        rw [hDi.out i hlt] at c1
        rw [hFi.out i hlt] at c2
        have HQi := Hd.mk (HQ.out (i + k) hqk)
        have hnn := HNN.out (i + k) hqk
        have t1 : ((i : Int) + (k : Int)).toNat = i + k := by omega
        have t2 : IntKind.i64.wrap ((i : Int) + (k : Int)) = (i : Int) + (k : Int) := IntWalk.i64_in _ (by omega)
        have t3 : (0 : Int) ≤ (i : Int) + (k : Int) := by omega
        have t4 : (i : Int) + (k : Int) < mm := by omega
        have KB2 := Hd.mk fun r => below_dN KB.out r
        generalize X.getD (i + k) 0 = dd at *
        generalize Y.getD (i + k) 0 = y at *
        have hm1 : ∀ w' : World, fres .quo y x w' = fdiv y x := fun w' => (HQi.out w').1
        have hm2 : ∀ w' : World, w'.drewN (fcnt .quo y x) = w' := fun w' => (HQi.out w').2
        have e5 : (dd != dd) = false := by simp
        have e6 : (FloatKind.f64.format.order (fdiv y x) (fdiv y x) != some .eq) = false := by
          unfold bne
          rw [feq _ _ (F64_fdiv y x) (F64_fdiv y x), hnn]; simp
        generalize fdiv y x = P at *
        clear hlt KB HQi hnn hqk
        go_wp2_with fail
        go_quiet (fail)
        go_wp2_with fail
        exact ⟨⟨i + 1, by omega, by go_num, ⟨KB2.out _⟩⟩, by simp [intOf]; omega⟩
      · obtain rfl : q = i := by omega
        have hge : ¬ (q : Int) < q := by omega
        have CF := Hd.mk (C9.out.trans (KB.out.mono C9.out.size))
        by_cases hk0 : k = 0
        · have d9 : ((k : Int) == 0) = true := by simp [hk0]
          clear hlt hk0 KB
          go_wp2_with fail
          refine (awake24_any _).mono ?_; rintro e w11 ⟨rfl, hb⟩
          have C11 := Hd.mk (CF.out.trans (hb.mono CF.out.size))
          clear hb
          go_wp2_with fail
          go_ret
          exact ⟨rfl, C11.out⟩
        · have d9 : ((k : Int) == 0) = false := by simp [hk0]
          have d10 := decide_eq_true (HS2.out (k - 1) (by omega))
          obtain ⟨b3, o3, rfl, c3⟩ := (T9.out.belowK KB.out).ix.cell (k - 1) (by rw [HM.out]; omega)
          have t1 : ((k : Int) - 1).toNat = k - 1 := by omega
          have t2 : IntKind.i64.wrap ((k : Int) - 1) = (k : Int) - 1 := IntWalk.i64_in _ (by omega)
          have t3 : (0 : Int) ≤ (k : Int) - 1 := by omega
          have t5 : (1 : Int) ≤ (k : Int) := by omega
          have t4 : (k : Int) - 1 < mm := by omega
          generalize X.getD (k - 1) 0 = dd at *
          clear hlt hk0 KB
          go_wp2_with fail
          refine (awake24_any _).mono ?_; rintro e w11 ⟨rfl, hb⟩
          have C11 := Hd.mk (CF.out.trans (hb.mono CF.out.size))
          clear hb
          go_wp2_with fail
          go_ret
          exact ⟨rfl, C11.out⟩

end Go.Proofs.Yteikihidblcljaa
