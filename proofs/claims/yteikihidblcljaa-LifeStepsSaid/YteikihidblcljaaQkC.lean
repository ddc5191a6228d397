/- The walk of life's Roll, for any curve and day. -/
import Derived.Test.YteikihidblcljaaQiC
namespace Go.Proofs.Yteikihidblcljaa
open Go.RowKit
set_option linter.unusedSimpArgs false
set_option linter.unusedVariables false

set_option maxHeartbeats 6400000 in
set_option maxRecDepth 100000 in
theorem roll_chkbad (b kind : Int) (ax : Option Addr) (X : List Int) (cx : Nat) (ay : Option Addr) (Y : List Nat) (cy : Nat) (n : Int) (w : World) (ht : Tbl w ax X ay Y) (hc : chkU b kind X Y ≠ 0) :
    Calls Try.prog 42 #[.agg #[.int .i64 b, .int .i64 kind, .slice ax X.length cx, .slice ay Y.length cy], .int .i64 n] w (RollRet b kind X Y n w) := by
  obtain ⟨W, hW, b1, b2, b3, b4⟩ := box_cc w b kind ax X.length cx ay Y.length cy
  have HW := Hd.mk hW
  have B1 := Hd.mk b1
  have B2 := Hd.mk b2
  have B3 := Hd.mk b3
  have HT := Hd.mk (ht.belowK b3)
  have HC := Hd.mk fun w' h => curveCheck_any b kind ax X cx ay Y cy w' h
  have HE : Hd (rollE b kind X Y n = chkU b kind X Y) := ⟨by unfold rollE; rw [if_pos hc]⟩
  have HR : Hd (∀ e w', (((rollE b kind X Y n = 0 ∧ ∃ p1 p2 m, e = .returned (.tuple #[.agg #[.int .i64 n, .int .i64 kind, .slice (some p1) m m, .slice (some p2) m m], .int .i64 0]) ∧ m = X.length - kR X n ∧ Tbl w' (some p1) (rollD X n) (some p2) (rollF X Y n (rollX b kind X Y n))) ∨
   (rollE b kind X Y n ≠ 0 ∧ e = .returned (.tuple #[.agg #[.int .i64 0, .int .i64 0, .slice none 0 0, .slice none 0 0], .int .i64 (rollE b kind X Y n)]))) ∧ Below w.heap.size w w') → RollRet b kind X Y n w e w') := ⟨fun e w' h => h⟩
  rw [HE.out] at HR
  have HNz := Hd.mk hc
  generalize chkU b kind X Y = E at *
  have d1 : (E != 0) = true := by rw [bne_iff_ne]; exact hc
  generalize X.length = n1 at *
  generalize Y.length = n2 at *
  obtain ⟨p0, p1, p2, p3⟩ := b1.cell
  clear ht hc b1 b2 b3 b4 hW HE
  go_enter Try.func42, Try.ntmps42
  go_upto_region 1 with fail
  rw [HW.out]
  go_wp2_with fail
  refine (HC.out _ HT.out).mono ?_; rintro e w1 ⟨rfl, hb⟩
  have C1 := Hd.mk (B3.out.trans (hb.mono B3.out.size))
  have V1 := Hd.mk (B2.out.below hb)
  clear hb p0 p1 p2 p3
  obtain ⟨r0, r1, r2, r3⟩ := V1.out.cell
  have fz := V1.out.lies
  obtain ⟨WE, hE', hE1, hE2, hE3⟩ := roll_put V1.out C1.out 0 0 none 0 0 none 0 0
  have HE' := Hd.mk hE'
  have HE2 := Hd.mk hE2
  obtain ⟨g0, g1, g2, g3⟩ := hE1.cell
  clear hE1 hE2 hE3 hE'
  go_wp2_with fail
  rw [HE'.out]
  exact bodyPost_ret (v := .tuple #[.agg #[.int .i64 0, .int .i64 0, .slice none 0 0, .slice none 0 0], .int .i64 E]) (by simp [results, Try.results42, go_sem, g0, g1, g2, g3]) rfl (HR.out _ _ ⟨Or.inr ⟨HNz.out, rfl⟩, HE2.out⟩)

set_option maxHeartbeats 6400000 in
set_option maxRecDepth 100000 in
theorem roll_out (b kind : Int) (ax : Option Addr) (X : List Int) (cx : Nat) (ay : Option Addr) (Y : List Nat) (cy : Nat) (n : Int) (w : World) (ht : Tbl w ax X ay Y) (hc : chkU b kind X Y = 0) (ho : n < b ∨ lastT X ≤ n) :
    Calls Try.prog 42 #[.agg #[.int .i64 b, .int .i64 kind, .slice ax X.length cx, .slice ay Y.length cy], .int .i64 n] w (RollRet b kind X Y n w) := by
  obtain ⟨W, hW, b1, b2, b3, b4⟩ := box_cc w b kind ax X.length cx ay Y.length cy
  have HW := Hd.mk hW
  have B1 := Hd.mk b1
  have B2 := Hd.mk b2
  have B3 := Hd.mk b3
  have HT := Hd.mk (ht.belowK b3)
  have HC := Hd.mk fun w' h => curveCheck_any b kind ax X cx ay Y cy w' h
  have ok := chkU_ok hc
  have n1 := ok.n1
  have n255 := ok.n2
  have HE : Hd (rollE b kind X Y n = 51) := ⟨by unfold rollE; rw [if_neg (by omega), if_pos ho]⟩
  rw [hc] at HC
  have HR : Hd (∀ e w', (((rollE b kind X Y n = 0 ∧ ∃ p1 p2 m, e = .returned (.tuple #[.agg #[.int .i64 n, .int .i64 kind, .slice (some p1) m m, .slice (some p2) m m], .int .i64 0]) ∧ m = X.length - kR X n ∧ Tbl w' (some p1) (rollD X n) (some p2) (rollF X Y n (rollX b kind X Y n))) ∨
   (rollE b kind X Y n ≠ 0 ∧ e = .returned (.tuple #[.agg #[.int .i64 0, .int .i64 0, .slice none 0 0, .slice none 0 0], .int .i64 (rollE b kind X Y n)]))) ∧ Below w.heap.size w w') → RollRet b kind X Y n w e w') := ⟨fun e w' h => h⟩
  rw [HE.out] at HR
  obtain ⟨m, hm⟩ : ∃ m, X.length = m := ⟨_, rfl⟩
  have HM := Hd.mk hm
  unfold lastT at ho
  rw [hm] at HC B1 b1 hW HW n1 n255 ho ⊢
  generalize Y.length = n2 at *
  obtain ⟨bx, ox, rfl, hcx⟩ := HT.out.ix.cell (m - 1) (by rw [HM.out]; omega)
  obtain ⟨p0, p1, p2, p3⟩ := b1.cell
  generalize X.getD (m - 1) 0 = L at *
  have i1 : ((m : Int) - 1).toNat = m - 1 := by omega
  have i2 : IntKind.i64.wrap ((m : Int) - 1) = (m : Int) - 1 := IntWalk.i64_in _ (by omega)
  have i3 : (0 : Int) ≤ (m : Int) - 1 := by omega
  have i4 : (m : Int) - 1 < m := by omega
  by_cases hnb : n < b
  · have d1 := decide_eq_true hnb
    clear ok ht hc b1 b2 b3 b4 hW HE hm ho hnb
    go_enter Try.func42, Try.ntmps42
    go_upto_region 1 with fail
    rw [HW.out]
    go_wp2_with fail
    refine (HC.out _ HT.out).mono ?_; rintro e w1 ⟨rfl, hb⟩
    have C1 := Hd.mk (B3.out.trans (hb.mono B3.out.size))
    have U1 := Hd.mk (B1.out.below hb)
    have V1 := Hd.mk (B2.out.below hb)
    clear hb p0 p1 p2 p3
    obtain ⟨p0, p1, p2, p3⟩ := U1.out.cell
    obtain ⟨r0, r1, r2, r3⟩ := V1.out.cell
    have fz := V1.out.lies
    obtain ⟨WE, hE', hE1, hE2, hE3⟩ := roll_put V1.out C1.out 0 0 none 0 0 none 0 0
    have HE' := Hd.mk hE'
    have HE2 := Hd.mk hE2
    obtain ⟨g0, g1, g2, g3⟩ := hE1.cell
    clear hE1 hE2 hE3 hE'
    go_wp2_with fail
    rw [HE'.out]
    exact bodyPost_ret (v := .tuple #[.agg #[.int .i64 0, .int .i64 0, .slice none 0 0, .slice none 0 0], .int .i64 51]) (by simp [results, Try.results42, go_sem, g0, g1, g2, g3]) rfl (HR.out _ _ ⟨Or.inr ⟨by decide, rfl⟩, HE2.out⟩)
  · have d1 := decide_eq_false hnb
    have d2 : decide (L ≤ n) = true := decide_eq_true (by omega)
    clear ok ht hc b1 b2 b3 b4 hW HE hm ho hnb
    go_enter Try.func42, Try.ntmps42
    go_upto_region 1 with fail
    rw [HW.out]
    go_wp2_with fail
    refine (HC.out _ HT.out).mono ?_; rintro e w1 ⟨rfl, hb⟩
    have C1 := Hd.mk (B3.out.trans (hb.mono B3.out.size))
    have U1 := Hd.mk (B1.out.below hb)
    have V1 := Hd.mk (B2.out.below hb)
    have hcx1 := (hb.cell (World.block_lt_of_cell? _ _ hcx)).trans hcx
    clear hb p0 p1 p2 p3 hcx
    obtain ⟨p0, p1, p2, p3⟩ := U1.out.cell
    obtain ⟨r0, r1, r2, r3⟩ := V1.out.cell
    have fz := V1.out.lies
    obtain ⟨WE, hE', hE1, hE2, hE3⟩ := roll_put V1.out C1.out 0 0 none 0 0 none 0 0
    have HE' := Hd.mk hE'
    have HE2 := Hd.mk hE2
    obtain ⟨g0, g1, g2, g3⟩ := hE1.cell
    clear hE1 hE2 hE3 hE'
    go_wp2_with fail
    rw [HE'.out]
    exact bodyPost_ret (v := .tuple #[.agg #[.int .i64 0, .int .i64 0, .slice none 0 0, .slice none 0 0], .int .i64 51]) (by simp [results, Try.results42, go_sem, g0, g1, g2, g3]) rfl (HR.out _ _ ⟨Or.inr ⟨by decide, rfl⟩, HE2.out⟩)

/-- Roll, as a whole. -/
theorem lifeRoll_any (b kind : Int) (ax : Option Addr) (X : List Int) (cx : Nat) (ay : Option Addr) (Y : List Nat) (cy : Nat) (n : Int) (w : World) (ht : Tbl w ax X ay Y) :
    Calls Try.prog 42 #[.agg #[.int .i64 b, .int .i64 kind, .slice ax X.length cx, .slice ay Y.length cy], .int .i64 n] w (RollRet b kind X Y n w) := by
  by_cases hc : chkU b kind X Y = 0
  · by_cases ho : n < b ∨ lastT X ≤ n
    · exact roll_out b kind ax X cx ay Y cy n w ht hc ho
    · exact roll_good b kind ax X cx ay Y cy n w ht hc (by omega) (by omega)
  · exact roll_chkbad b kind ax X cx ay Y cy n w ht hc

end Go.Proofs.Yteikihidblcljaa
