/- FnHorners' walk. -/
import Derived.Test.YtjhkjekbadbgnaaM6
namespace Go.Proofs.Ytjhkjekbadbgnaa
open Go.RowKit
set_option linter.unusedSimpArgs false
set_option linter.unusedVariables false

theorem Fls.under {w w' : World} {a : Option Addr} {l : List Nat} (h : Fls w a l) (hb : Below w.heap.size w w') : Fls w' a l := h.below fun b o v h => cell_of_below hb (Nat.le_refl _) h

theorem getD_map_cn (l : List Nat) (i : Nat) : (l.map cn).getD i 0 = cn (l.getD i 0) := by
  rw [List.getD_eq_getElem?_getD, List.getD_eq_getElem?_getD, List.getElem?_map]
  cases l[i]? with
  | none => simp [cn_zero]
  | some x => rfl

/-- Horner's scheme, taken of words and of floats: the same but for the NaNs. -/
theorem horn_same (l : List Nat) (x r : Nat) (hl : ∀ i, F64 (l.getD i 0)) (hx : F64 x) (h : cn r = horn (l.map cn) (cn x)) : same r (horn l x) = true := by
  refine same_of_cn ?_
  rw [h, horn_cn l x hl hx]

set_option maxHeartbeats 8000000 in
theorem fnHorners_any (a : Option Addr) (l : List Nat) (c x : Nat) (w : World) (hl : Fls w a l) (hx : F64 x) :
    Calls Try.prog 11 #[.slice a l.length c, .float .f64 x] w fun e w' => e = .returned (.bool true) ∧ Below w.heap.size w w' := by
  have HL := Hd.mk hl
  obtain ⟨n, hn⟩ : ∃ n, l.length = n := ⟨_, rfl⟩
  have HH := Hd.mk fun w hl => horner_any a l c x hx w hl
  have HBi := Hd.mk fun w h (h2 : l.length ≤ 1000) => bitsL_any a l c w h h2
  have HRr := Hd.mk fun w a' c' h => rHorner_any a' l c' x hx w h
  have HAr := Hd.mk fun w a' c' h h' => are_true a a' l l n c c' hn hn w h h' (fun i _ => by unfold same; simp)
  rw [hn] at *
  have HN := Hd.mk hn
  clear hl hn
  by_cases hb : 100 < n
  · have t1 : (100 : Int) < n := by omega
    clear hb
    go_enter Try.func11, Try.ntmps11
    go_wp2_with fail
    refine (awake4_any _).mono ?_; rintro en w1 ⟨rfl, hb⟩
    have B := Hd.mk hb
    clear hb
    go_wp2_with fail
    go_ret
    exact ⟨rfl, B.out⟩
  · have t1 : decide ((100 : Int) < n) = false := by simp; omega
    have t2 : decide (100 < n) = false := by simp; omega
    have hn2 := Hd.mk hb
    clear hb
    go_enter Try.func11, Try.ntmps11
    go_wp2_with fail
    refine (HBi.out _ HL.out (by have := hn2.out; omega)).mono ?_; rintro en w1 ⟨a1, c1, rfl, hu, hb⟩
    have HL1 := Hd.mk (HL.out.under hb)
    have HU := Hd.mk hu
    have B := Hd.mk hb
    clear hu hb
    go_wp2_with fail
    refine (HH.out _ HL1.out).mono ?_; rintro en w2 ⟨r, q, rfl, hr, hc, rfl⟩
    have HC := Hd.mk hc
    have HR := Hd.mk hr
    have HL2 : Hd (Fls (w1.drewN q) a l) := ⟨HL1.out.below fun b o v h => h⟩
    have HU2 : Hd (Us (w1.drewN q) a1 l) := ⟨HU.out.below (below_drewN (Below.refl _ _) q)⟩
    have B2 := Hd.mk (below_drewN B.out q)
    clear hr hc
    go_wp2_with fail
    refine (apiBits_any _ _).mono ?_; rintro en w' ⟨rfl, rfl⟩
    go_wp2_with fail
    refine (HRr.out _ _ _ HU2.out).mono ?_; rintro en w3 ⟨rfl, hb⟩
    have HI := Hd.mk (is_true r (horn l x) HR.out (F64_horn l x HL.out.wf) (horn_same l x r HL.out.wf hx HC.out))
    have HL3 := Hd.mk (HL2.out.under hb)
    have HU3 := Hd.mk (HU2.out.below hb)
    have B3 := Hd.mk (B2.out.trans (hb.mono B2.out.size))
    clear hb
    go_wp2_with fail
    refine (HI.out _).mono ?_; rintro en w' ⟨rfl, rfl⟩
    go_wp2_with fail
    refine (HAr.out _ _ _ HL3.out HU3.out).mono ?_; rintro en w4 ⟨rfl, k, rfl⟩
    go_wp2_with fail
    refine (awake4_any _).mono ?_; rintro en w5 ⟨rfl, hb⟩
    have B5 : Hd (Below w.heap.size w w5) := ⟨(below_drewN B3.out k).trans (hb.mono B3.out.size)⟩
    clear hb
    go_wp2_with fail
    go_ret
    exact ⟨rfl, B5.out⟩

end Go.Proofs.Ytjhkjekbadbgnaa
