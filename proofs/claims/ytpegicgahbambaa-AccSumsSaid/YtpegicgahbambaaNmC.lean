/- AccSums' walk. -/
import Derived.Test.YtpegicgahbambaaM11
import Derived.Test.YtpegicgahbambaaM6
namespace Go.Proofs.Ytpegicgahbambaa
open Go.RowKit
set_option linter.unusedSimpArgs false
set_option linter.unusedVariables false

/-- The four lists, in a world. -/
structure SB (w0 : World) (a : Option Addr) (l : List Nat) (a' : Option Addr) (m : List Nat) (a1 a3 : Option Addr) (w : World) : Prop where
  fl : Fls w a l
  fm : Fls w a' m
  ul : Us w a1 l
  um : Us w a3 m
  bl : Below w0.heap.size w0 w
theorem SB.step {w0 : World} {a : Option Addr} {l : List Nat} {a' : Option Addr} {m : List Nat} {a1 a3 : Option Addr} {w w' : World} (h : SB w0 a l a' m a1 a3 w) (hb : Below w.heap.size w w') : SB w0 a l a' m a1 a3 w' :=
  ⟨h.fl.belowK hb, h.fm.belowK hb, h.ul.below hb, h.um.below hb, h.bl.trans (hb.mono h.bl.size)⟩
theorem SB.drewN {w0 : World} {a : Option Addr} {l : List Nat} {a' : Option Addr} {m : List Nat} {a1 a3 : Option Addr} {w : World} (h : SB w0 a l a' m a1 a3 w) (k : Nat) : SB w0 a l a' m a1 a3 (w.drewN k) := h.step (below_drewN (Below.refl _ _) k)
theorem zS_takeB {l : List Nat} (h : ∀ i, F64 (l.getD i 0)) (hl : l.length ≤ 1000) (k : Nat) : AccB (zS (l.take k)) :=
  (zS_bd (l.take k) (wf_take h k)).accB (small_bd _ (by rw [List.length_take]; omega))
theorem zD_takeB {l m : List Nat} (h : ∀ i, F64 (l.getD i 0)) (h' : ∀ i, F64 (m.getD i 0)) (hl : l.length ≤ 1000) (k : Nat) : AccB (zD (l.take k) (m.take k)) :=
  (zD_bd (l.take k) (m.take k) (wf_take h k) (wf_take h' k)).accB (small_bd _ (by rw [List.length_take]; omega))
theorem same_self (x : Nat) : same x x = true := by unfold same; simp

/-- Dot and the reference's Dot answer the same. -/
theorem dots_any (w0 : World) (a : Option Addr) (l : List Nat) (c : Nat) (a' : Option Addr) (m : List Nat) (c' : Nat) (a1 a3 : Option Addr) (c1 c3 : Nat) (hl : l.length ≤ 1000) :
    ∃ (D : Nat) (ok ok' : Bool), F64 D ∧ (ok == ok') = true ∧
      (∀ w, SB w0 a l a' m a1 a3 w → Calls Try.prog 24 #[.slice a l.length c, .slice a' m.length c'] w fun e w' => e = .returned (.tuple #[.float .f64 D, .bool ok]) ∧ Below w.heap.size w w') ∧
      (∀ w, SB w0 a l a' m a1 a3 w → Calls Try.prog 25 #[.slice a1 l.length c1, .slice a3 m.length c3] w fun e w' => e = .returned (.tuple #[.int .u64 D, .bool ok']) ∧ Below w.heap.size w w') := by
  by_cases h : l.length = m.length
  · refine ⟨overA (zD l m) (uD l m) (dD l m) 1, true, true, F64_overA _ _ _ _, rfl, fun w hw => ?_, fun w hw => ?_⟩
    · exact dot_any a l c a' m c' w hw.fl hw.fm h (zD_accB hw.fl hw.fm hl)
    · exact r3dot_any a1 l c1 a3 m c3 w hw.ul hw.um h (zD_takeB hw.ul.wf hw.um.wf hl)
  · refine ⟨0, false, false, F64_0, rfl, fun w hw => ?_, fun w hw => ?_⟩
    · refine (dot_no a l.length c a' m.length c' h w).mono ?_
      rintro e w' ⟨rfl, rfl⟩
      exact ⟨rfl, Below.refl _ _⟩
    · refine (r3dot_no a1 l.length c1 a3 m.length c3 h w).mono ?_
      rintro e w' ⟨rfl, rfl⟩
      exact ⟨rfl, Below.refl _ _⟩

set_option maxHeartbeats 3200000 in
set_option maxRecDepth 100000 in
theorem accSums_any (a : Option Addr) (l : List Nat) (c : Nat) (a' : Option Addr) (m : List Nat) (c' : Nat) (w : World) (hl : Fls w a l) (hr : Room a l.length c) (hm : Fls w a' m) (hr' : Room a' m.length c') :
    Calls Try.prog 7 #[.slice a l.length c, .slice a' m.length c'] w fun e w' => e = .returned (.bool true) ∧ Below w.heap.size w w' := by
  have HL := Hd.mk hl
  have HM := Hd.mk hm
  have HR := Hd.mk hr
  have HBi := Hd.mk fun w h (h2 : l.length ≤ 1000) => bitsR_any a l c w h h2
  have HBi' := Hd.mk fun w h (h2 : m.length ≤ 1000) => bitsR_any a' m c' w h h2
  have HDot := Hd.mk fun a1 a3 c1 c3 h => dots_any w a l c a' m c' a1 a3 c1 c3 h
  have HSm := Hd.mk fun w h h2 => sum_any a l c w h (zS_accB hl h2)
  have HSm' := Hd.mk fun w a1 c1 h h2 => r3sum_any a1 l c1 w h (zS_takeB hl.wf h2)
  have HLf := Hd.mk fun w h => left_any a l c w h
  have HLf' := Hd.mk fun w a1 c1 h => refLeft_any a1 l c1 w h
  have HP := Hd.mk fun w h => pair_any l.length a l c w (Nat.le_refl _) hr.le hr.max h
  have HP' := Hd.mk fun w a1 c1 h h1 h2 => refPair_any l.length a1 l c1 w (Nat.le_refl _) h1 h2 h
  have HK := Hd.mk fun w h => kahan_any a l c w h
  have HK' := Hd.mk fun w a1 c1 h => refKahan_any a1 l c1 w h
  have sL := Hd.mk fun r (hc : cn r = leftF l) => show same r (leftR l) = true from same_of_cn (by rw [leftR_eq l hl.wf, ← hc, cn_cn])
  have sP := Hd.mk fun r (hc : cn r = pairF (l.length + 1) l) => show same r (pairR (l.length + 1) l) = true from same_of_cn (by rw [pairR_cn _ l hl.wf, hc])
  have sK := Hd.mk fun r (hc : cn r = kahF l) => show same r (kahF l) = true from same_of_cn (by rw [← hc, cn_cn])
  have fL := Hd.mk (F64_leftR l)
  have fP := Hd.mk (F64_pairR (l.length + 1) l hl.wf)
  have fK : Hd (F64 (kahF l)) := ⟨F64_fadd _ _⟩
  have fS := Hd.mk (F64_overA (zS l) (uS l) (dS l) 1)
  have HAr := Hd.mk fun w a1 c1 h h' => are_true a a1 l l l.length c c1 rfl rfl w h h' (fun i _ => same_self _)
  have HAr' := Hd.mk fun w a1 c1 h h' => are_true a' a1 m m m.length c' c1 rfl rfl w h h' (fun i _ => same_self _)
  have hlen := hl.len
  have hlen' := hm.len
  clear hl hm hr hr'
  generalize l.length = n at *
  generalize m.length = n' at *
  go_enter Try.func7, Try.ntmps7
  by_cases hc1 : 100 < n
  · have hd : decide ((n : Int) > 100) = true := by simp; omega
    go_wp2_with fail
    refine (awake3_any _).mono ?_; rintro e w3 ⟨rfl, hb⟩
    have B3 := Hd.mk hb
    clear hb
    go_wp2_with fail
    go_ret
    exact ⟨rfl, B3.out⟩
  have hd1 : decide ((n : Int) > 100) = false := by simp; omega
  by_cases hc2 : 100 < n'
  · have hd : decide ((n' : Int) > 100) = true := by simp; omega
    go_wp2_with fail
    refine (awake3_any _).mono ?_; rintro e w3 ⟨rfl, hb⟩
    have B3 := Hd.mk hb
    clear hb
    go_wp2_with fail
    go_ret
    exact ⟨rfl, B3.out⟩
  have hd2 : decide ((n' : Int) > 100) = false := by simp; omega
  have N1 := Hd.mk (show n ≤ 1000 by omega)
  have N2 := Hd.mk (show n' ≤ 1000 by omega)
  clear hc1 hc2
  go_wp2_with fail
  refine (HBi.out _ HL.out N1.out).mono ?_; rintro en w1 ⟨a1, c1, rfl, hu, hrm, hb⟩
  have HM1 := Hd.mk (HM.out.belowK hb)
  have HL1 := Hd.mk (HL.out.belowK hb)
  have U1 := Hd.mk hu
  have R1 := Hd.mk hrm
  have B1 := Hd.mk hb
  clear hu hrm hb
  go_wp2_with fail
  refine (HBi'.out _ HM1.out N2.out).mono ?_; rintro en w2 ⟨a3, c3, rfl, hu, hrm, hb⟩
  have S0 : Hd (SB w a l a' m a1 a3 w2) := ⟨⟨HL1.out.belowK hb, HM1.out.belowK hb, U1.out.below hb, hu, B1.out.trans (hb.mono B1.out.size)⟩⟩
  clear hu hrm hb U1 B1
  obtain ⟨D, ok, ok', hfD, hok, hDo, hDo'⟩ := HDot.out a1 a3 c1 c3 N1.out
  have FD := Hd.mk hfD
  have HDo := Hd.mk hDo
  have HDo' := Hd.mk hDo'
  clear hfD hDo hDo' HDot
  go_wp2_with fail
  refine (HDo.out _ S0.out).mono ?_; rintro en w10 ⟨rfl, hb⟩
  have S1 := Hd.mk (S0.out.step hb)
  clear hb S0
  go_wp2_with fail
  refine (HDo'.out _ S1.out).mono ?_; rintro en w11 ⟨rfl, hb⟩
  have S2 := Hd.mk (S1.out.step hb)
  clear hb S1
  go_wp2_with fail
  refine (is_true D D FD.out FD.out (same_self D) _).mono ?_; rintro en w' ⟨rfl, rfl⟩
  go_wp2_with fail
  refine (HSm.out _ S2.out.fl N1.out).mono ?_; rintro en w12 ⟨rfl, hb⟩
  have S3 := Hd.mk (S2.out.step hb)
  clear hb S2
  go_wp2_with fail
  refine (HSm'.out _ _ _ S3.out.ul N1.out).mono ?_; rintro en w13 ⟨rfl, hb⟩
  have S4 := Hd.mk (S3.out.step hb)
  clear hb S3
  go_wp2_with fail
  refine (is_true _ _ fS.out fS.out (same_self _) _).mono ?_; rintro en w' ⟨rfl, rfl⟩
  go_wp2_with fail
  refine (HLf.out _ S4.out.fl).mono ?_; rintro en w' ⟨r4, k4, rfl, hr, hc, rfl⟩
  have T4 := Hd.mk hr
  have E4 := Hd.mk hc
  have S5 := Hd.mk (S4.out.drewN k4)
  clear hr hc S4
  go_wp2_with fail
  refine (HLf'.out _ _ _ S5.out.ul).mono ?_; rintro en w15 ⟨rfl, hb⟩
  have S6 := Hd.mk (S5.out.step hb)
  clear hb S5
  go_wp2_with fail
  refine (is_true _ _ T4.out fL.out (sL.out _ E4.out) _).mono ?_; rintro en w' ⟨rfl, rfl⟩
  go_wp2_with fail
  refine (HP.out _ S6.out.fl).mono ?_; rintro en w' ⟨r6, k6, rfl, hr, hc, rfl⟩
  have T6 := Hd.mk hr
  have E6 := Hd.mk hc
  have S7 := Hd.mk (S6.out.drewN k6)
  clear hr hc S6
  go_wp2_with fail
  refine (HP'.out _ _ _ S7.out.ul R1.out.1 R1.out.2).mono ?_; rintro en w17 ⟨rfl, hb⟩
  have S8 := Hd.mk (S7.out.step hb)
  clear hb S7
  go_wp2_with fail
  refine (is_true _ _ T6.out fP.out (sP.out _ E6.out) _).mono ?_; rintro en w' ⟨rfl, rfl⟩
  go_wp2_with fail
  refine (HK.out _ S8.out.fl).mono ?_; rintro en w' ⟨r8, k8, rfl, hr, hc, rfl⟩
  have T8 := Hd.mk hr
  have E8 := Hd.mk hc
  have S9 := Hd.mk (S8.out.drewN k8)
  clear hr hc S8
  go_wp2_with fail
  refine (HK'.out _ _ _ S9.out.ul).mono ?_; rintro en w19 ⟨rfl, hb⟩
  have S10 := Hd.mk (S9.out.step hb)
  clear hb S9
  go_wp2_with fail
  refine (is_true _ _ T8.out fK.out (sK.out _ E8.out) _).mono ?_; rintro en w' ⟨rfl, rfl⟩
  go_wp2_with fail
  refine (HAr.out _ _ _ S10.out.fl S10.out.ul).mono ?_; rintro en w' ⟨rfl, k10, rfl⟩
  have S11 := Hd.mk (S10.out.drewN k10)
  go_wp2_with fail
  refine (HAr'.out _ _ _ S11.out.fm S11.out.um).mono ?_; rintro en w' ⟨rfl, k11, rfl⟩
  have S12 := Hd.mk (S10.out.drewN (k10 + k11))
  clear S11 S10
  go_wp2_with fail
  refine (awake3_any _).mono ?_; rintro en w20 ⟨rfl, hb⟩
  have S13 := Hd.mk (S12.out.step hb)
  clear hb S12
  go_wp2_with fail
  go_ret
  exact ⟨rfl, S13.out.bl⟩

end Go.Proofs.Ytpegicgahbambaa
