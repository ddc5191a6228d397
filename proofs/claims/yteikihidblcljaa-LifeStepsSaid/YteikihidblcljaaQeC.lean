/- The walk of curve's Factor. -/
import Derived.Test.YteikihidblcljaaQcC
import Derived.Test.YteikihidblcljaaQdC
import Derived.Test.YteikihidblcljaaM12
namespace Go.Proofs.Yteikihidblcljaa
open Go.RowKit
set_option linter.unusedSimpArgs false
set_option linter.unusedVariables false

theorem facU_bad {b kind : Int} {D : List Int} {F : List Nat} {n : Int} (h : chkU b kind D F ≠ 0) : facU b kind D F n = (0, chkU b kind D F) := by unfold facU; rw [if_neg h]
theorem facU_ok {b kind : Int} {D : List Int} {F : List Nat} {n : Int} (h : chkU b kind D F = 0) : facU b kind D F n = atT kind (b :: D) (one64 :: F) n := by unfold facU; rw [if_pos h]

set_option maxHeartbeats 3200000 in
theorem curveFactor_any (ba kind : Int) (ax : Option Addr) (X : List Int) (cx : Nat) (ay : Option Addr) (Y : List Nat) (cy : Nat) (n : Int) (w : World) (ht : Tbl w ax X ay Y) :
    Calls Try.prog 45 #[.agg #[.int .i64 ba, .int .i64 kind, .slice ax X.length cx, .slice ay Y.length cy], .int .i64 n] w (AtRet (facU ba kind X Y n) w) := by
  obtain ⟨W, hW, b1, b2⟩ := box_c w ba kind ax X.length cx ay Y.length cy
  have HW := Hd.mk hW
  have B1 := Hd.mk b1
  have B2 := Hd.mk b2
  have HC := Hd.mk fun w' h => curveCheck_any ba kind ax X cx ay Y cy w' h
  have HT := Hd.mk (ht.belowK b2)
  have HR : Hd (∀ e w', (e = .returned (.tuple #[.float .f64 (facU ba kind X Y n).1, .int .i64 (facU ba kind X Y n).2]) ∧ Below w.heap.size w w') → AtRet (facU ba kind X Y n) w e w') := ⟨fun e w' h => h⟩
  by_cases hc : chkU ba kind X Y = 0
  · have ok := chkU_ok hc
    have hba : -9223372036854775808 ≤ ba ∧ ba ≤ 9223372036854775807 := by have := ok.b0; have := ok.b1; omega
    have n1 := ok.n1
    have n2 := ok.n2
    have ln := ok.ln
    have HTb := Hd.mk fun w' h => curveTable_any ba kind ax X cx ay Y cy w' hba h n1 n2 (by omega) (by omega)
    have HA := Hd.mk fun a c a' c' w' h hr => at_any10 kind a (ba :: X) c a' (one64 :: Y) c' n w' h hr
    unfold AtRet at HA
    rw [hc] at HC
    rw [facU_ok hc] at HR ⊢
    unfold TabRet at HTb
    simp only [List.length_cons] at HA
    rw [ln] at HTb HA HC B1 b1 hW HW ⊢
    generalize (atT kind (ba :: X) (one64 :: Y) n).1 = V1 at *
    generalize (atT kind (ba :: X) (one64 :: Y) n).2 = V2 at *
    generalize X.length = m at *
    obtain ⟨p0, p1, p2, p3⟩ := b1.cell
    clear ok hba n1 n2 ln hc ht b1 b2 hW
    go_enter Try.func45, Try.ntmps45
    go_upto_region 1 with fail
    rw [HW.out]
    go_wp2_with fail
    refine (HC.out _ HT.out).mono ?_; rintro e w1 ⟨rfl, hb⟩
    have C1 := Hd.mk (B2.out.trans (hb.mono B2.out.size))
    have T1 := Hd.mk (HT.out.belowK hb)
    have U1 := Hd.mk (B1.out.below hb)
    clear hb p0 p1 p2 p3
    obtain ⟨p0, p1, p2, p3⟩ := U1.out.cell
    go_wp2_with fail
    refine (HTb.out _ T1.out).mono ?_; rintro e w2 ⟨a1, c1, a2, c2, rfl, ht, hr, hb⟩
    have C2 := Hd.mk (C1.out.trans (hb.mono C1.out.size))
    have HA2 := Hd.mk (HA.out a1 c1 a2 c2 _ ht hr)
    clear hb p0 p1 p2 p3 ht hr
    go_wp2_with fail
    refine HA2.out.mono ?_; rintro e w3 ⟨rfl, hb⟩
    have C3 := Hd.mk (C2.out.trans (hb.mono C2.out.size))
    clear hb
    go_wp2_with fail
    exact bodyPost_ret (v := .tuple #[.float .f64 V1, .int .i64 V2]) (by simp [results, Try.results45, go_sem]) rfl (HR.out _ _ ⟨rfl, C3.out⟩)
  · rw [facU_bad hc] at HR ⊢
    obtain ⟨E, hE⟩ : ∃ E, chkU ba kind X Y = E := ⟨_, rfl⟩
    rw [hE] at HC hc HR ⊢
    have d1 : (E != 0) = true := by rw [bne_iff_ne]; exact hc
    generalize X.length = m at *
    generalize Y.length = k at *
    obtain ⟨p0, p1, p2, p3⟩ := b1.cell
    clear hc ht b1 b2 hW hE
    go_enter Try.func45, Try.ntmps45
    go_upto_region 1 with fail
    rw [HW.out]
    go_wp2_with fail
    refine (HC.out _ HT.out).mono ?_; rintro e w1 ⟨rfl, hb⟩
    have C1 := Hd.mk (B2.out.trans (hb.mono B2.out.size))
    clear hb
    go_wp2_with fail
    exact bodyPost_ret (v := .tuple #[.float .f64 0, .int .i64 E]) (by simp [results, Try.results45, go_sem]) rfl (HR.out _ _ ⟨rfl, C1.out⟩)

end Go.Proofs.Yteikihidblcljaa
