/- The walk of InterpChecks. -/
import Derived.Test.YtmmcnjoeepgpgaaUwC
import Derived.Test.YtmmcnjoeepgpgaaUtC
import Derived.Test.YtmmcnjoeepgpgaaM12
import Derived.Test.YtmmcnjoeepgpgaaM6
namespace Go.Proofs.Ytmmcnjoeepgpgaa
open Go.RowKit
set_option linter.unusedSimpArgs false
set_option linter.unusedVariables false

theorem OfRet.tbl {kind : Int} {ax : Option Addr} {X : List Int} {cx : Nat} {ay : Option Addr} {Y : List Nat} {w : World} {e : Ending} {w' : World} (ht : Tbl w ax X ay Y) (h : OfRet kind ax X.length cx Y w e w') :
    ∃ au cu, e = .returned (.agg #[.int .i64 kind, .slice ax X.length cx, .slice au Y.length cu]) ∧ Hd (TblR w' ax X au Y) ∧ Hd (Below w.heap.size w w') := by
  obtain ⟨au, cu, h1, h2, h3, h4⟩ := h
  exact ⟨au, cu, h1, ⟨⟨ht.ix.belowK h4, h2⟩⟩, ⟨h4⟩⟩

set_option maxHeartbeats 6400000 in
set_option maxRecDepth 100000 in
theorem interpChecks_any (kind : Int) (ax : Option Addr) (X : List Int) (cx : Nat) (ay : Option Addr) (Y : List Nat) (cy : Nat) (x : Int) (w : World) (_hk : -9223372036854775808 ≤ kind ∧ kind ≤ 9223372036854775807) (ht : Tbl w ax X ay Y) (_hrx : Room ax X.length cx) (hry : Room ay Y.length cy) (_hx : (Lit.int .i64 x).wf = true) :
    Calls Try.prog 3 #[.agg #[.int .i64 kind, .slice ax X.length cx, .slice ay Y.length cy], .int .i64 x] w fun e w' => e = .returned (.bool true) ∧ Below w.heap.size w w' := by
  have lx := ht.ix.len
  have ly := ht.fy.len
  by_cases hl : 300 < X.length ∨ 300 < Y.length
  · obtain ⟨W, hW, b1, b2⟩ := box_t w kind ax X.length cx ay Y.length cy
    obtain ⟨y0, y1, y2⟩ := b1.cell
    have B2 := Hd.mk b2
    generalize X.length = n at *
    generalize Y.length = m at *
    clear b1 b2 ht
    by_cases h1 : 300 < n
    · have d1 : decide ((n : Int) > 300) = true := by simp; omega
      clear hl h1
      go_enter Try.func3, Try.ntmps3
      go_upto_region 1 with fail
      clear hW
      go_wp2_with fail
      refine (awake10_any _).mono ?_; rintro e w3 ⟨rfl, hb⟩
      have C3 := Hd.mk (B2.out.trans (hb.mono B2.out.size))
      clear hb
      go_wp2_with fail
      go_ret
      exact ⟨rfl, C3.out⟩
    · have d1 : decide ((n : Int) > 300) = false := by simp; omega
      have d2 : decide ((m : Int) > 300) = true := by simp; omega
      clear hl h1
      go_enter Try.func3, Try.ntmps3
      go_upto_region 1 with fail
      clear hW
      go_wp2_with fail
      refine (awake10_any _).mono ?_; rintro e w3 ⟨rfl, hb⟩
      have C3 := Hd.mk (B2.out.trans (hb.mono B2.out.size))
      clear hb
      go_wp2_with fail
      go_ret
      exact ⟨rfl, C3.out⟩
  have d1 : decide ((X.length : Int) > 300) = false := by simp; omega
  have d2 : decide ((Y.length : Int) > 300) = false := by simp; omega
  have HC := Hd.mk fun w1 h => check_any kind ax X cx ay Y cy w1 h
  have HF := Hd.mk fun w1 h => findX_any kind ax X cx ay Y cy x w1 h
  have HO := Hd.mk fun w1 (h : Tbl w1 ax X ay Y) => (of10_any kind ax X.length cx ay Y cy w1 h.fy (by omega)).mono fun _ _ h2 => OfRet.tbl h h2
  have HRC := Hd.mk fun au cu w1 h => check10r_any kind ax X cx au Y cu w1 h
  have HRF := Hd.mk fun au cu w1 h => find10r_of (kind := kind) (ax := ax) (X := X) (cx := cx) (au := au) (Y := Y) (cu := cu) (fun w1 h => check10r_any kind ax X cx au Y cu w1 h) x w1 h
  obtain ⟨W, hW, b1, b2⟩ := box_t w kind ax X.length cx ay Y.length cy
  obtain ⟨y0, y1, y2⟩ := b1.cell
  have B1 := Hd.mk b1
  have B2 := Hd.mk b2
  have T := Hd.mk (ht.belowK b2)
  clear hl lx ly
  by_cases hc : chkT kind X Y = 0
  · rw [hc] at HC HRC
    obtain ⟨F1, F2, hF⟩ : ∃ F1 F2, fdT kind X Y x = (F1, F2) := ⟨_, _, rfl⟩
    rw [hF] at HF HRF
    dsimp only at HF HRF
    have e1 : ((F1 : Int) != F1) = false := by simp
    have e2 : ((F2 : Int) != F2) = false := by simp
    generalize X.length = n at *
    generalize Y.length = m at *
    clear b1 b2 ht hc hF
    go_enter Try.func3, Try.ntmps3
    go_upto_region 1 with fail
    clear hW
    go_wp2_with fail
    refine (HC.out _ T.out).mono ?_; rintro e w1 ⟨rfl, hb⟩
    have C1 := Hd.mk (B2.out.trans (hb.mono B2.out.size))
    have T1 := Hd.mk (T.out.belowK hb)
    have U1 := Hd.mk (B1.out.below hb)
    clear hb y0 y1 y2
    obtain ⟨z0, z1, z2⟩ := U1.out.cell
    go_wp2_with fail
    refine (HO.out _ T1.out).mono ?_; rintro e w2 ⟨au, cu, rfl, R2, hb⟩
    have C2 := Hd.mk (C1.out.trans (hb.out.mono C1.out.size))
    have T2 := Hd.mk (T1.out.belowK hb.out)
    have U2 := Hd.mk (U1.out.below hb.out)
    clear hb z0 z1 z2
    obtain ⟨z0, z1, z2⟩ := U2.out.cell
    go_wp2_with fail
    refine (HRC.out _ _ _ R2.out).mono ?_; rintro e w3 ⟨rfl, hb⟩
    have C3 := Hd.mk (C2.out.trans (hb.mono C2.out.size))
    have T3 := Hd.mk (T2.out.belowK hb)
    have U3 := Hd.mk (U2.out.below hb)
    clear hb z0 z1 z2
    obtain ⟨z0, z1, z2⟩ := U3.out.cell
    go_wp2_with fail
    refine (HF.out _ T3.out).mono ?_; rintro e w4 ⟨rfl, hb⟩
    have C4 := Hd.mk (C3.out.trans (hb.mono C3.out.size))
    have T4 := Hd.mk (T3.out.belowK hb)
    have U4 := Hd.mk (U3.out.below hb)
    clear hb z0 z1 z2
    obtain ⟨z0, z1, z2⟩ := U4.out.cell
    go_wp2_with fail
    refine (HO.out _ T4.out).mono ?_; rintro e w5 ⟨au', cu', rfl, R5, hb⟩
    have C5 := Hd.mk (C4.out.trans (hb.out.mono C4.out.size))
    clear hb z0 z1 z2
    go_wp2_with fail
    refine (HRF.out _ _ _ R5.out).mono ?_; rintro e w6 ⟨rfl, hb⟩
    have C6 := Hd.mk (C5.out.trans (hb.mono C5.out.size))
    clear hb
    go_wp2_with fail
    refine (awake10_any _).mono ?_; rintro e w7 ⟨rfl, hb⟩
    have C7 := Hd.mk (C6.out.trans (hb.mono C6.out.size))
    clear hb
    go_wp2_with fail
    go_ret
    exact ⟨rfl, C7.out⟩
  · have hF : fdT kind X Y x = (0, chkT kind X Y) := by unfold fdT; rw [if_neg hc]
    have hA : atT kind X Y x = (0, chkT kind X Y) := by unfold atT; rw [if_neg hc]
    have HA := Hd.mk fun w1 h => at_any10 kind ax X cx ay Y cy x w1 h hry
    have HS := Hd.mk fun w1 h => slopesX_bad kind ax X cx ay Y cy w1 h hc
    have HP := Hd.mk fun w1 h => pointsX_bad kind ax X cx ay Y cy 0 w1 h hc
    rw [hF] at HF HRF
    rw [hA] at HA
    unfold AtRet at HA
    dsimp only at HF HRF HA
    have HI := Hd.mk (is_true 0 0 ⟨by decide⟩ ⟨by decide⟩ (by decide +kernel))
    obtain ⟨E, hE⟩ : ∃ E, chkT kind X Y = E := ⟨_, rfl⟩
    rw [hE] at HC HRC HF HRF HA HS HP hc
    have e0 : (E != 0) = true := by rw [bne_iff_ne]; exact hc
    have e1 : ((E : Int) != E) = false := by simp
    have e3 : (E == 0) = false := by rw [beq_eq_false_iff_ne]; exact hc
    have e4 : (E == E) = true := by simp
    generalize X.length = n at *
    generalize Y.length = m at *
    clear b1 b2 ht hc hF hA hE
    go_enter Try.func3, Try.ntmps3
    go_upto_region 1 with fail
    clear hW
    go_wp2_with fail
    refine (HC.out _ T.out).mono ?_; rintro e w1 ⟨rfl, hb⟩
    have C1 := Hd.mk (B2.out.trans (hb.mono B2.out.size))
    have T1 := Hd.mk (T.out.belowK hb)
    have U1 := Hd.mk (B1.out.below hb)
    clear hb y0 y1 y2
    obtain ⟨z0, z1, z2⟩ := U1.out.cell
    go_wp2_with fail
    refine (HO.out _ T1.out).mono ?_; rintro e w2 ⟨au, cu, rfl, R2, hb⟩
    have C2 := Hd.mk (C1.out.trans (hb.out.mono C1.out.size))
    have T2 := Hd.mk (T1.out.belowK hb.out)
    have U2 := Hd.mk (U1.out.below hb.out)
    clear hb z0 z1 z2
    obtain ⟨z0, z1, z2⟩ := U2.out.cell
    go_wp2_with fail
    refine (HRC.out _ _ _ R2.out).mono ?_; rintro e w3 ⟨rfl, hb⟩
    have C3 := Hd.mk (C2.out.trans (hb.mono C2.out.size))
    have T3 := Hd.mk (T2.out.belowK hb)
    have U3 := Hd.mk (U2.out.below hb)
    clear hb z0 z1 z2
    obtain ⟨z0, z1, z2⟩ := U3.out.cell
    go_wp2_with fail
    refine (HF.out _ T3.out).mono ?_; rintro e w4 ⟨rfl, hb⟩
    have C4 := Hd.mk (C3.out.trans (hb.mono C3.out.size))
    have T4 := Hd.mk (T3.out.belowK hb)
    have U4 := Hd.mk (U3.out.below hb)
    clear hb z0 z1 z2
    obtain ⟨z0, z1, z2⟩ := U4.out.cell
    go_wp2_with fail
    refine (HO.out _ T4.out).mono ?_; rintro e w5 ⟨au', cu', rfl, R5, hb⟩
    have C5 := Hd.mk (C4.out.trans (hb.out.mono C4.out.size))
    have T5 := Hd.mk (T4.out.belowK hb.out)
    have U5 := Hd.mk (U4.out.below hb.out)
    clear hb z0 z1 z2
    go_wp2_with fail
    refine (HRF.out _ _ _ R5.out).mono ?_; rintro e w6 ⟨rfl, hb⟩
    have C6 := Hd.mk (C5.out.trans (hb.mono C5.out.size))
    have T6 := Hd.mk (T5.out.belowK hb)
    have U6 := Hd.mk (U5.out.below hb)
    clear hb
    obtain ⟨z0, z1, z2⟩ := U6.out.cell
    go_wp2_with fail
    refine (HA.out _ T6.out).mono ?_; rintro e w7 ⟨rfl, hb⟩
    have C7 := Hd.mk (C6.out.trans (hb.mono C6.out.size))
    have T7 := Hd.mk (T6.out.belowK hb)
    have U7 := Hd.mk (U6.out.below hb)
    clear hb z0 z1 z2
    obtain ⟨z0, z1, z2⟩ := U7.out.cell
    go_wp2_with fail
    refine (HS.out _ T7.out).mono ?_; rintro e w8 ⟨rfl, hb⟩
    have C8 := Hd.mk (C7.out.trans (hb.mono C7.out.size))
    have T8 := Hd.mk (T7.out.belowK hb)
    have U8 := Hd.mk (U7.out.below hb)
    clear hb z0 z1 z2
    obtain ⟨z0, z1, z2⟩ := U8.out.cell
    go_wp2_with fail
    refine (HP.out _ T8.out).mono ?_; rintro e w9 ⟨rfl, hb⟩
    have C9 := Hd.mk (C8.out.trans (hb.mono C8.out.size))
    clear hb z0 z1 z2
    go_wp2_with fail
    refine (HI.out _).mono ?_; rintro e w10 ⟨rfl, rfl⟩
    go_wp2_with fail
    refine (awake10_any _).mono ?_; rintro e w11 ⟨rfl, hb⟩
    have CA := Hd.mk (C9.out.trans (hb.mono C9.out.size))
    clear hb
    go_wp2_with fail
    go_ret
    exact ⟨rfl, CA.out⟩

end Go.Proofs.Ytmmcnjoeepgpgaa
