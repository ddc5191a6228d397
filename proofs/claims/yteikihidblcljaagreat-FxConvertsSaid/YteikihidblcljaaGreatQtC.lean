/- The walk of tenorlaw23's FxConverts. -/
import Derived.Test.YteikihidblcljaaGreatCpC
import Derived.Test.YteikihidblcljaaGreatYuC
import Derived.Test.YteikihidblcljaaGreatZcC
namespace Go.Proofs.YteikihidblcljaaGreat
open Go.RowKit
set_option linter.unusedSimpArgs false
set_option linter.unusedVariables false

theorem cvL_wf {L : List Pr} {l : List Fw} {tc : Int} : ∀ k, F64 ((l.map (cvF L tc)).getD k fw0).x := fun k => by
  rw [List.getD_eq_getElem?_getD, List.getElem?_map]
  cases l[k]? with
  | none => exact ⟨by simp [fw0]⟩
  | some v => exact F64_fmul _ _
theorem cvL_rg {L : List Pr} {l : List Fw} {tc : Int} (ht : -9223372036854775808 ≤ tc ∧ tc ≤ 9223372036854775807) (hr : ∀ k, (-9223372036854775808 ≤ (l.getD k fw0).d ∧ (l.getD k fw0).d ≤ 9223372036854775807) ∧ (-9223372036854775808 ≤ (l.getD k fw0).c ∧ (l.getD k fw0).c ≤ 9223372036854775807)) :
    ∀ k, (-9223372036854775808 ≤ ((l.map (cvF L tc)).getD k fw0).d ∧ ((l.map (cvF L tc)).getD k fw0).d ≤ 9223372036854775807) ∧ (-9223372036854775808 ≤ ((l.map (cvF L tc)).getD k fw0).c ∧ ((l.map (cvF L tc)).getD k fw0).c ≤ 9223372036854775807) := fun k => by
  have h := hr k
  rw [List.getD_eq_getElem?_getD] at h
  rw [List.getD_eq_getElem?_getD, List.getElem?_map]
  cases hq : l[k]? with
  | none => simp [fw0]
  | some v => rw [hq] at h; exact ⟨h.1, ht⟩

set_option maxHeartbeats 6400000 in
set_option maxRecDepth 100000 in
theorem fxConverts_any (ad : Option Addr) (l : List Pr) (c : Nat) (am : Option Addr) (m : List Fw) (cm : Nat) (tc : Int) (w : World) (hl : Prs w ad l) (_hr : Room ad l.length c) (hm : Flws w am m) (_hrm : Room am m.length cm) (htc : (Lit.int .i64 tc).wf = true) :
    Calls Tryz.prog 3 #[.slice ad l.length c, .slice am m.length cm, .int .i64 tc] w fun e w' => e = .returned (.bool true) ∧ Below w.heap.size w w' := by
  have hlen := hl.len
  have hlm := hm.len
  by_cases h60 : 60 < l.length
  · have d1 : decide ((l.length : Int) > 60) = true := by simp; omega
    generalize l.length = n at *
    generalize m.length = k at *
    clear h60 hl hm
    go_enter Tryz.func3, Tryz.ntmps3
    go_wp2_with fail
    refine (awake23_any _).mono ?_; rintro e w1 ⟨rfl, hb⟩
    have B := Hd.mk hb
    clear hb
    go_wp2_with fail
    go_ret
    exact ⟨rfl, B.out⟩
  have d1 : decide ((l.length : Int) > 60) = false := by simp; omega
  by_cases h40 : 40 < m.length
  · have d2 : decide ((m.length : Int) > 40) = true := by simp; omega
    generalize l.length = n at *
    generalize m.length = k at *
    clear h60 hl hm h40
    go_enter Tryz.func3, Tryz.ntmps3
    go_wp2_with fail
    refine (awake23_any _).mono ?_; rintro e w1 ⟨rfl, hb⟩
    have B := Hd.mk hb
    clear hb
    go_wp2_with fail
    go_ret
    exact ⟨rfl, B.out⟩
  have d2 : decide ((m.length : Int) > 40) = false := by simp; omega
  have ht : -9223372036854775808 ≤ tc ∧ tc ≤ 9223372036854775807 := by
    have h2 := htc
    have h3 : IntKind.i64.min = -9223372036854775808 := by decide
    have h4 : IntKind.i64.max = 9223372036854775807 := by decide
    simp only [Lit.wf, Bool.and_eq_true, decide_eq_true_eq, h3, h4] at h2
    exact h2
  have HM := Hd.mk (made23_any ad l c w hl (by omega))
  have HWf := Hd.mk hl.wf
  unfold MadeRet at HM
  have HOf := Hd.mk fun w1 (h : Flws w1 am m) => of14_any am m cm w1 h (by omega)
  unfold OfFl at HOf
  have HC := Hd.mk fun (g : Good l) tb w1 (h : TabIs w1 tb l) (h2 : Flws w1 am m) => fxConvert_any l g tb am m cm tc w1 h h2
  have HRC := Hd.mk fun (g : Good l) au cu a2 c2 w1 (h : PrsU w1 au l) (h2 : FlwsU w1 a2 m) => rFxConvert_any l g au cu a2 m c2 tc w1 h h2
  have HS := Hd.mk fun (g : Good l) tb w1 (h : TabIs w1 tb l) (h2 : Flws w1 am m) => fxSum_any l g tb am m cm tc w1 h h2
  have HRS := Hd.mk fun (g : Good l) au cu a2 c2 w1 (h : PrsU w1 au l) (h2 : FlwsU w1 a2 m) => rFxSum_any l g au cu a2 m c2 tc w1 h h2
  unfold ConvRet at HC
  unfold RConvRet at HRC
  unfold CrsRet at HS
  unfold CrsRetU at HRS
  have HSm := Hd.mk fun a1 c1 a2 c2 w1 (h1 : Flws w1 a1 (m.map (cvF l tc))) (h2 : FlwsU w1 a2 (m.map (cvF l tc))) => same14_any a1 (m.map (cvF l tc)) c1 a2 c2 w1 h1 h2
  have HSn := Hd.mk fun w1 => same14_any none [] 0 none 0 w1 (Flws.nil _ _) (FlwsU.nil _ _)
  have HFl := Hd.mk fun a1 c1 (w1 : World) B (h : w1.ownsRow B 70 3 (.slice a1 m.length c1) m.length (flV (m.map (cvF l tc)))) => ownsRow_flws h (by simp) cvL_wf (cvL_rg ht hm.rg) (by simp; omega)
  have HFu := Hd.mk fun a1 c1 (w1 : World) B (h : w1.ownsRow B 102 3 (.slice a1 m.length c1) m.length (flU (m.map (cvF l tc)))) => own_flwsU h (by simp) cvL_wf (cvL_rg ht hm.rg) (by simp; omega)
  have hfv : F64 (sumT l m tc).1 := by
    unfold sumT
    split
    · exact ⟨by show 0 < 18446744073709551616; decide⟩
    · split
      · exact ⟨by show 0 < 18446744073709551616; decide⟩
      · unfold toldV; split
        · exact (F64_overA _ _ _ _ : F64 (overA (sumZ l tc m m.length) false false 1))
        · exact ⟨by show 0 < 18446744073709551616; decide⟩
  have HP := Hd.mk hm
  obtain ⟨V, E, hV⟩ : ∃ V E, sumT l m tc = (V, E) := ⟨_, _, rfl⟩
  rw [hV] at HS HRS hfv
  dsimp only at HS HRS hfv
  have HI := Hd.mk fun w1 => is_any V V hfv hfv w1
  rw [same_of_cn rfl] at HI
  obtain ⟨Z, hZ⟩ : ∃ Z, cvE l m tc = Z := ⟨_, rfl⟩
  rw [hZ] at HC HRC
  have e4 : (E == E) = true := by simp
  have e5 : (Z == Z) = true := by simp
  simp only [List.length_map] at HSm
  simp only [List.length_nil] at HSn
  generalize hmc : m.map (cvF l tc) = M2 at *
  generalize hn : l.length = n at *
  generalize hmn : m.length = k at *
  clear h60 h40 hl hm hV hfv hZ hn hmn hmc htc ht
  go_enter Tryz.func3, Tryz.ntmps3
  go_wp2_with fail
  refine HM.out.mono ?_
  rintro e w1 ⟨⟨hz, tb, au, cu, rfl, ht, _, hp⟩ | ⟨_, rfl⟩, hb⟩
  rotate_left
  · have B := Hd.mk hb
    clear hb
    go_wp2_with fail
    refine (awake23_any _).mono ?_; rintro e w2 ⟨rfl, hb⟩
    have B2 := Hd.mk (B.out.trans ((((Below.refl _ _).alloc (Nat.le_refl _) _).trans (hb.mono (by simp))).mono B.out.size))
    clear hb
    go_wp2_with fail
    go_ret
    exact ⟨rfl, B2.out⟩
  have G := Hd.mk (newA_good HWf.out hz)
  have B1 := Hd.mk hb
  obtain ⟨W, hW, v0, v1⟩ := tboxU1 w1 (.slice au n cu)
  have HW := Hd.mk hW
  have T2 := Hd.mk (ht.tab.below v1)
  have P2 := Hd.mk (hp.below v1)
  have V2 := Hd.mk v0
  have B2 := Hd.mk (B1.out.trans (v1.mono B1.out.size))
  have M2' := Hd.mk (HP.out.below (hb.trans (v1.mono hb.size)))
  clear hz ht hp hb hW v0 v1 B1 HP HM
  go_upto_region 4 with fail
  rw [HW.out]
  go_wp2_with fail
  refine (HOf.out _ M2'.out).mono ?_; rintro e w3 ⟨a3, c3, rfl, hu, hb⟩
  have T3 := Hd.mk (T2.out.below hb)
  have P3 := Hd.mk (P2.out.below hb)
  have V3 := Hd.mk (V2.out.below hb)
  have B3 := Hd.mk (B2.out.trans (hb.mono B2.out.size))
  have M3 := Hd.mk (M2'.out.below hb)
  have F3 := Hd.mk hu
  clear hb T2 P2 V2 B2 M2' hu HW HOf
  go_wp2_with fail
  refine (HC.out G.out _ _ T3.out M3.out).mono ?_
  rintro e w4 ⟨⟨hz, a4, c4, rfl, ho4⟩ | ⟨hz, rfl⟩, hb⟩
  · have T4 := Hd.mk (T3.out.below hb)
    have P4 := Hd.mk (P3.out.below hb)
    have V4 := Hd.mk (V3.out.below hb)
    have B4 := Hd.mk (B3.out.trans (hb.mono B3.out.size))
    have M4 := Hd.mk (M3.out.below hb)
    have F4 := Hd.mk (F3.out.below hb)
    have O4 := Hd.mk (HFl.out _ _ _ _ ho4)
    have HZ := Hd.mk hz
    clear hb T3 P3 V3 B3 M3 F3 ho4 hz HFl HC
    have r0 := V4.out.cell
    go_wp2_with fail
    refine (HRC.out G.out _ _ _ _ _ P4.out F4.out).mono ?_
    rintro e w5 ⟨⟨_, a5, c5, rfl, ho5⟩ | ⟨hz, _⟩, hb⟩
    rotate_left
    · exact absurd HZ.out hz
    have T5 := Hd.mk (T4.out.below hb)
    have P5 := Hd.mk (P4.out.below hb)
    have V5 := Hd.mk (V4.out.below hb)
    have B5 := Hd.mk (B4.out.trans (hb.mono B4.out.size))
    have M5 := Hd.mk (M4.out.below hb)
    have F5 := Hd.mk (F4.out.below hb)
    have O5 := Hd.mk (O4.out.below hb)
    have Q5 := Hd.mk (HFu.out _ _ _ _ ho5)
    clear hb r0 T4 P4 V4 B4 M4 F4 O4 ho5 HFu HRC
    go_wp2_with fail
    refine (HS.out G.out _ _ T5.out M5.out).mono ?_; rintro e w6 ⟨rfl, hb⟩
    have P6 := Hd.mk (P5.out.below hb)
    have V6 := Hd.mk (V5.out.below hb)
    have B6 := Hd.mk (B5.out.trans (hb.mono B5.out.size))
    have F6 := Hd.mk (F5.out.below hb)
    have O6 := Hd.mk (O5.out.below hb)
    have Q6 := Hd.mk (Q5.out.below hb)
    clear hb T5 P5 V5 B5 M5 F5 O5 Q5
    have r0 := V6.out.cell
    go_wp2_with fail
    refine (HRS.out G.out _ _ _ _ _ P6.out F6.out).mono ?_; rintro e w7 ⟨rfl, hb⟩
    have B7 := Hd.mk (B6.out.trans (hb.mono B6.out.size))
    have O7 := Hd.mk (O6.out.below hb)
    have Q7 := Hd.mk (Q6.out.below hb)
    clear hb r0 P6 V6 B6 F6 O6 Q6
    go_wp2_with fail
    refine (HSm.out _ _ _ _ _ O7.out Q7.out).mono ?_; rintro e w8 ⟨rfl, hb⟩
    have B8 := Hd.mk (B7.out.trans (hb.mono B7.out.size))
    clear hb
    go_wp2_with fail
    refine (HI.out _).mono ?_; rintro e w9 ⟨rfl, rfl⟩
    go_wp2_with fail
    refine (awake23_any _).mono ?_; rintro e w10 ⟨rfl, hb⟩
    have B10 := Hd.mk (B8.out.trans (hb.mono B8.out.size))
    clear hb
    go_wp2_with fail
    go_ret
    exact ⟨rfl, B10.out⟩
  · have T4 := Hd.mk (T3.out.below hb)
    have P4 := Hd.mk (P3.out.below hb)
    have V4 := Hd.mk (V3.out.below hb)
    have B4 := Hd.mk (B3.out.trans (hb.mono B3.out.size))
    have M4 := Hd.mk (M3.out.below hb)
    have F4 := Hd.mk (F3.out.below hb)
    have HZ := Hd.mk hz
    clear hb T3 P3 V3 B3 M3 F3 hz HFl HC
    have r0 := V4.out.cell
    go_wp2_with fail
    refine (HRC.out G.out _ _ _ _ _ P4.out F4.out).mono ?_
    rintro e w5 ⟨⟨hz, _⟩ | ⟨_, rfl⟩, hb⟩
    · exact absurd hz HZ.out
    have T5 := Hd.mk (T4.out.below hb)
    have P5 := Hd.mk (P4.out.below hb)
    have V5 := Hd.mk (V4.out.below hb)
    have B5 := Hd.mk (B4.out.trans (hb.mono B4.out.size))
    have M5 := Hd.mk (M4.out.below hb)
    have F5 := Hd.mk (F4.out.below hb)
    clear hb r0 T4 P4 V4 B4 M4 F4 HFu HRC
    go_wp2_with fail
    refine (HS.out G.out _ _ T5.out M5.out).mono ?_; rintro e w6 ⟨rfl, hb⟩
    have P6 := Hd.mk (P5.out.below hb)
    have V6 := Hd.mk (V5.out.below hb)
    have B6 := Hd.mk (B5.out.trans (hb.mono B5.out.size))
    have F6 := Hd.mk (F5.out.below hb)
    clear hb T5 P5 V5 B5 M5 F5
    have r0 := V6.out.cell
    go_wp2_with fail
    refine (HRS.out G.out _ _ _ _ _ P6.out F6.out).mono ?_; rintro e w7 ⟨rfl, hb⟩
    have B7 := Hd.mk (B6.out.trans (hb.mono B6.out.size))
    clear hb r0 P6 V6 B6 F6
    go_wp2_with fail
    refine (HSn.out _).mono ?_; rintro e w8 ⟨rfl, hb⟩
    have B8 := Hd.mk (B7.out.trans (hb.mono B7.out.size))
    clear hb
    go_wp2_with fail
    refine (HI.out _).mono ?_; rintro e w9 ⟨rfl, rfl⟩
    go_wp2_with fail
    refine (awake23_any _).mono ?_; rintro e w10 ⟨rfl, hb⟩
    have B10 := Hd.mk (B8.out.trans (hb.mono B8.out.size))
    clear hb
    go_wp2_with fail
    go_ret
    exact ⟨rfl, B10.out⟩

end Go.Proofs.YteikihidblcljaaGreat
