/- SolvePolys' walk. -/
import Derived.Test.YtjhkjekbadbgnaaPw
namespace Go.Proofs.Ytjhkjekbadbgnaa
open Go.RowKit
set_option linter.unusedSimpArgs false
set_option linter.unusedVariables false

set_option maxRecDepth 100000 in
set_option maxHeartbeats 8000000 in
theorem solvePolys_any (a : Option Addr) (l : List Nat) (c lo hi : Nat) (W : World) (hl : Fls W a l) (flo : F64 lo) (fhi : F64 hi) :
    Calls Try.prog 3 #[.slice a l.length c, .float .f64 lo, .float .f64 hi] W fun e w' => e = .returned (.bool true) ∧ Below W.heap.size W w' := by
  have HL := Hd.mk hl
  by_cases h20 : 20 < l.length
  · have d1 : decide (20 < (l.length : Int)) = true := by simp; omega
    have d2 : decide (20 < l.length) = true := by simp; omega
    clear hl h20
    go_enter Try.func3, Try.ntmps3
    go_wp2_with fail
    refine (awake_any _).mono ?_; rintro en w1 ⟨rfl, hb⟩
    have B1 := Hd.mk hb
    clear hb
    go_wp2_with fail
    go_ret
    exact ⟨rfl, B1.out⟩
  · have d1 : decide (20 < (l.length : Int)) = false := by simp; omega
    have d2 : decide (20 < l.length) = false := by simp; omega
    have HP := Hd.mk fun w h => poly_any a l c lo hi flo fhi w h
    have HBi := Hd.mk fun w h => bitsL_any a l c w h (by omega)
    have HRo : Hd (root (gP l) lo hi = root (horn l) lo hi) := ⟨root_congr (fun y fy => by unfold gP; rw [horn_cn l y hl.wf fy |>.symm, cn_cn]) lo hi flo fhi⟩
    have HRP := Hd.mk fun w a' c' h => refPoly_any a' l c' lo hi w flo fhi h
    rw [HRo.out] at HP
    obtain ⟨⟨X, N, E⟩, ht⟩ : ∃ t, root (horn l) lo hi = t := ⟨_, rfl⟩
    have FX : Hd (F64 X) := ⟨F64_root _ lo hi flo fhi ht⟩
    rw [ht] at HP HRP
    have hs1 : same X X = true := by unfold same; simp
    clear HRo ht hl h20
    go_enter Try.func3, Try.ntmps3
    go_wp2_with fail
    refine (HP.out _ HL.out).mono ?_; rintro en w1 ⟨rfl, hb⟩
    have B1 := Hd.mk hb
    have HL1 : Hd (Fls w1 a l) := ⟨HL.out.below fun b o v h => cell_of_below hb (Nat.le_refl _) h⟩
    clear hb
    go_wp2_with fail
    refine (HBi.out _ HL1.out).mono ?_; rintro en w2 ⟨a2, c2, rfl, hu, hb⟩
    have HU := Hd.mk hu
    have B2 := Hd.mk (B1.out.trans (hb.mono B1.out.size))
    clear hu hb
    go_wp2_with fail
    refine (apiBits_any _ _).mono ?_; rintro en w' ⟨rfl, rfl⟩
    go_wp2_with fail
    refine (apiBits_any _ _).mono ?_; rintro en w' ⟨rfl, rfl⟩
    go_wp2_with fail
    refine (HRP.out _ _ _ HU.out).mono ?_
    rintro en w3 ⟨lo', hi', neg, calls, ask, first, x, er, rfl, hr, hb⟩
    obtain ⟨rfl, rfl, rfl⟩ : X = x ∧ N = calls ∧ E = er := by simpa using hr
    have B3 := Hd.mk (B2.out.trans (hb.mono B2.out.size))
    clear hr hb
    go_wp2_with fail
    refine (is_any X X FX.out FX.out _).mono ?_; rintro en w' ⟨rfl, rfl⟩
    go_wp2_with fail
    refine (awake_any _).mono ?_; rintro en w5 ⟨rfl, hb5⟩
    have B5 : Hd (Below W.heap.size W w5) := ⟨(B3.out.alloc B3.out.size _).trans (hb5.mono (by have := B3.out.size; simp; omega))⟩
    clear hb5
    go_wp2_with fail
    go_ret
    exact ⟨rfl, B5.out⟩

end Go.Proofs.Ytjhkjekbadbgnaa
