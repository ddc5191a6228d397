/- The walk of LifeFalls. -/
import Derived.Test.YteikihidblcljaaQoC
import Derived.Test.YteikihidblcljaaQmC
namespace Go.Proofs.Yteikihidblcljaa
open Go.RowKit
set_option linter.unusedSimpArgs false
set_option linter.unusedVariables false

theorem roll_baseL {b kind : Int} {D : List Int} {F : List Nat} (h : COk b kind D F) (hw : ∀ i, F64 (F.getD i 0)) : rollE b kind D F b = 0 ∧ rollD D b = D ∧ rollF D F b (rollX b kind D F b) = F ∧ kR D b = 0 := by
  obtain ⟨h1, h2, h3, h4, h5, h6, h7⟩ := roll_base h hw
  refine ⟨?_, h4, ?_, h3⟩
  · classical
    unfold rollE
    rw [if_neg (by rw [chkU_of h]; decide), if_neg (by omega), if_pos]
    intro i hi _
    rw [h2]
    exact h7 i hi
  · rw [h2]
    refine List.ext_getElem h6 fun i hi1 hi2 => ?_
    have := h5 i hi2
    rw [List.getD_eq_getElem?_getD, List.getD_eq_getElem?_getD, List.getElem?_eq_getElem hi1, List.getElem?_eq_getElem hi2] at this
    exact this
theorem rollE_ways {b kind : Int} {D : List Int} {F : List Nat} (hc : chkU b kind D F = 0) (n : Int) :
    (rollE b kind D F n = 51 ∧ (n < b ∨ lastT D ≤ n)) ∨ rollE b kind D F n = 91 ∨ (rollE b kind D F n = 0 ∧ b ≤ n ∧ n < lastT D ∧ ∀ i, i < D.length → kR D n ≤ i → okQ (fdiv (F.getD i 0) (rollX b kind D F n)) = true) := by
  classical
  unfold rollE
  rw [if_neg (by rw [hc]; decide)]
  by_cases h1 : n < b ∨ lastT D ≤ n
  · rw [if_pos h1]; exact Or.inl ⟨rfl, h1⟩
  · rw [if_neg h1]
    by_cases h2 : ∀ i, i < D.length → kR D n ≤ i → okQ (fdiv (F.getD i 0) (rollX b kind D F n)) = true
    · rw [if_pos h2]; exact Or.inr (Or.inr ⟨rfl, by omega, by omega, h2⟩)
    · rw [if_neg h2]; exact Or.inr (Or.inl rfl)

set_option maxHeartbeats 6400000 in
set_option maxRecDepth 100000 in
theorem lifeFalls_long (b kind : Int) (ax : Option Addr) (X : List Int) (cx : Nat) (ay : Option Addr) (Y : List Nat) (cy : Nat) (n : Int) (w : World) (hl : 30 < X.length ∨ 30 < Y.length) :
    Calls Try.prog 6 #[.agg #[.int .i64 b, .int .i64 kind, .slice ax X.length cx, .slice ay Y.length cy], .int .i64 n] w fun e w' => e = .returned (.bool true) ∧ Below w.heap.size w w' := by
  generalize X.length = m at *
  generalize Y.length = k at *
  obtain ⟨W, hW, b1, b2⟩ := box_c w b kind ax m cx ay k cy
  have HW := Hd.mk hW
  have B2 := Hd.mk b2
  obtain ⟨p0, p1, p2, p3⟩ := b1.cell
  clear hW b1 b2
  by_cases h1 : 30 < m
  · have d1 : decide ((m : Int) > 30) = true := by simp; omega
    clear hl h1
    go_enter Try.func6, Try.ntmps6
    go_upto_region 1 with fail
    rw [HW.out]
    go_wp2_with fail
    refine (awake24_any _).mono ?_; rintro e w3 ⟨rfl, hb⟩
    have C3 := Hd.mk (B2.out.trans (hb.mono B2.out.size))
    clear hb
    go_wp2_with fail
    go_ret
    exact ⟨rfl, C3.out⟩
  · have d1 : decide ((m : Int) > 30) = false := by simp; omega
    have d2 : decide ((k : Int) > 30) = true := by simp; omega
    clear hl h1
    go_enter Try.func6, Try.ntmps6
    go_upto_region 1 with fail
    rw [HW.out]
    go_wp2_with fail
    refine (awake24_any _).mono ?_; rintro e w3 ⟨rfl, hb⟩
    have C3 := Hd.mk (B2.out.trans (hb.mono B2.out.size))
    clear hb
    go_wp2_with fail
    go_ret
    exact ⟨rfl, C3.out⟩

set_option maxHeartbeats 6400000 in
set_option maxRecDepth 100000 in
theorem lifeFalls_bad (b kind : Int) (ax : Option Addr) (X : List Int) (cx : Nat) (ay : Option Addr) (Y : List Nat) (cy : Nat) (n : Int) (w : World) (ht : Tbl w ax X ay Y) (l1 : X.length ≤ 30) (l2 : Y.length ≤ 30) (hc : chkU b kind X Y ≠ 0) :
    Calls Try.prog 6 #[.agg #[.int .i64 b, .int .i64 kind, .slice ax X.length cx, .slice ay Y.length cy], .int .i64 n] w fun e w' => e = .returned (.bool true) ∧ Below w.heap.size w w' := by
  obtain ⟨W, hW, b1, b2⟩ := box_c w b kind ax X.length cx ay Y.length cy
  have HW := Hd.mk hW
  have B1 := Hd.mk b1
  have B2 := Hd.mk b2
  have T := Hd.mk (ht.belowK b2)
  have d1 : decide ((X.length : Int) > 30) = false := by simp; omega
  have d2 : decide ((Y.length : Int) > 30) = false := by simp; omega
  have HO := Hd.mk fun w1 (h : Tbl w1 ax X ay Y) => of11_any b kind ax X.length cx ay Y cy w1 h.fy (by omega)
  have HRl := Hd.mk fun w1 (h : Tbl w1 ax X ay Y) => lifeRoll_any b kind ax X cx ay Y cy b w1 h
  have HC := Hd.mk fun w1 (h : Tbl w1 ax X ay Y) => curveCheck_any b kind ax X cx ay Y cy w1 h
  have HE : Hd (rollE b kind X Y b = chkU b kind X Y) := ⟨by unfold rollE; rw [if_pos hc]⟩
  unfold RollRet at HRl
  unfold OfCRet at HO
  rw [HE.out] at HRl
  obtain ⟨E, hE⟩ : ∃ E, chkU b kind X Y = E := ⟨_, rfl⟩
  rw [hE] at HRl HC hc
  have d3 : (E != 0) = true := by rw [bne_iff_ne]; exact hc
  have d4 : (E == E) = true := by simp
  have HNz := Hd.mk hc
  generalize X.length = m at *
  generalize Y.length = k at *
  obtain ⟨p0, p1, p2, p3⟩ := b1.cell
  clear hW b1 b2 ht l1 l2 hc HE hE
  go_enter Try.func6, Try.ntmps6
  go_upto_region 1 with fail
  rw [HW.out]
  go_wp2_with fail
  refine (HO.out _ T.out).mono ?_; rintro e w1 ⟨au, cu, rfl, _, _, hb⟩
  obtain ⟨V, hV, v1, v2⟩ := box_v w1 b kind ax m cx au k cu
  have HV := Hd.mk hV
  have C1 := Hd.mk (B2.out.trans ((hb.trans (v2.mono hb.size)).mono B2.out.size))
  have T1 := Hd.mk (T.out.belowK (hb.trans (v2.mono hb.size)))
  have U1 := Hd.mk (B1.out.below (hb.trans (v2.mono hb.size)))
  clear hV v1 v2 hb p0 p1 p2 p3
  obtain ⟨p0, p1, p2, p3⟩ := U1.out.cell
  go_upto_region 4 with fail
  rw [HV.out]
  go_wp2_with fail
  refine (HRl.out _ T1.out).mono ?_
  rintro e w2 ⟨⟨h, _⟩ | ⟨_, rfl⟩, hb⟩
  · exact absurd h HNz.out
  obtain ⟨V2, hV2, v1, v2⟩ := box_c w2 0 0 none 0 0 none 0 0
  have HV2 := Hd.mk hV2
  have C2 := Hd.mk (C1.out.trans ((hb.trans (v2.mono hb.size)).mono C1.out.size))
  have T2 := Hd.mk (T1.out.belowK (hb.trans (v2.mono hb.size)))
  have U2 := Hd.mk (U1.out.below (hb.trans (v2.mono hb.size)))
  clear hV2 v1 v2 hb p0 p1 p2 p3
  obtain ⟨p0, p1, p2, p3⟩ := U2.out.cell
  go_upto_region 5 with fail
  rw [HV2.out]
  go_wp2_with fail
  refine (HC.out _ T2.out).mono ?_; rintro e w3 ⟨rfl, hb⟩
  have C3 := Hd.mk (C2.out.trans (hb.mono C2.out.size))
  have T3 := Hd.mk (T2.out.belowK hb)
  have U3 := Hd.mk (U2.out.below hb)
  clear hb p0 p1 p2 p3
  obtain ⟨p0, p1, p2, p3⟩ := U3.out.cell
  go_wp2_with fail
  refine (HC.out _ T3.out).mono ?_; rintro e w4 ⟨rfl, hb⟩
  have C4 := Hd.mk (C3.out.trans (hb.mono C3.out.size))
  clear hb
  go_wp2_with fail
  refine (awake24_any _).mono ?_; rintro e w5 ⟨rfl, hb⟩
  have C5 := Hd.mk (C4.out.trans (hb.mono C4.out.size))
  clear hb
  go_wp2_with fail
  go_ret
  exact ⟨rfl, C5.out⟩

end Go.Proofs.Yteikihidblcljaa
