/- Put together out of several texts: Pr. -/
import Derived.Test.YtjhkjekbadbgnaaM6
import Derived.Test.YtjhkjekbadbgnaaM4

/- The walk of the reference's Pow. -/
namespace Go.Proofs.Ytjhkjekbadbgnaa
open Go.RowKit
set_option linter.unusedSimpArgs false
set_option linter.unusedVariables false

set_option maxHeartbeats 8000000 in
theorem rPow_pos (x : Nat) (m : Nat) (hx : F64 x) (hm : m ≤ 1048576) (w : World) :
    Calls Try.prog 34 #[.int .u64 x, .int .i64 m] w (URet (powF 64 m oneW x) w) := by
  obtain ⟨T, hT⟩ : ∃ T, powF 64 m oneW x = T := ⟨_, rfl⟩
  rw [hT]
  have HT := Hd.mk hT
  have m0 : (0 : Int) ≤ m := by omega
  have m1 : (m : Int) ≤ 1048576 := by omega
  have HM := Hd.mk hm
  clear hT hm
  go_enter Try.func34, Try.ntmps34
  go_wp2_with fail
  go_loopw [1, 5, 6] (fun nv rv bv wr => ∃ (f n r b : Nat), n < 2 ^ f ∧ n ≤ 1048576 ∧ F64 r ∧ F64 b ∧ Hd (powF f n r b = T) ∧ nv = .int .i64 n ∧ rv = .int .u64 r ∧ bv = .int .u64 b ∧ Hd (Below w.heap.size w wr)) (fun nv _ _ _ => (intOf nv).toNat)
  case atStart => exact ⟨64, m, oneW, x, Nat.lt_of_le_of_lt HM.out (by decide), HM.out, one_w.w, hx, HT, rfl, rfl, rfl, ⟨Below.refl _ _⟩⟩
  case round =>
    obtain ⟨f, n, r, b, hf, hn, hr, hb, HP, rfl, rfl, rfl, HB⟩ := hrel
    by_cases h0 : n = 0
    · subst h0
      have H : Hd ((r : Int) = (T : Int)) := ⟨by have := HP.out; rw [powF_zero] at this; rw [this]⟩
      go_wp2_with fail
      go_ret
      exact ⟨ret_int H.out, HB.out⟩
    · obtain ⟨f, rfl⟩ : ∃ f', f = f' + 1 := ⟨f - 1, by
        cases f with
        | zero => simp at hf; omega
        | succ f => omega⟩
      have hf2 : n / 2 < 2 ^ f := by rw [Nat.pow_succ] at hf; omega
      have HF2 := Hd.mk hf2
      have hP := HP.out
      unfold powF at hP
      rw [if_neg h0] at hP
      have n0 : (0 : Int) < n := by omega
      have n1 : (n : Int) ≤ 1048576 := by omega
      have a1 : (n : Int) % 2 = ((n % 2 : Nat) : Int) := rfl
      have d1 : (n : Int) / 2 = ((n / 2 : Nat) : Int) := rfl
      have lq : n / 2 < n := by omega
      have lq2 : n / 2 ≤ 1048576 := by omega
      have HM1 := Hd.mk (rMul_any r b hr hb)
      have HM2 := Hd.mk (rMul_any b b hb hb)
      have F1 := F64_fmul r b
      have F2 := F64_fmul b b
      generalize fmul r b = rb at *
      generalize fmul b b = bb at *
      clear hf hf2 h0 HP
      rcases (by omega : n % 2 = 1 ∨ n % 2 = 0) with ho | ho <;> rw [ho] at a1 hP
      all_goals
        generalize n / 2 = n2 at *
        have n20 : (0 : Int) ≤ n2 := by omega
        by_cases h2 : n2 = 0
      · rw [if_pos rfl, if_pos h2] at hP
        have H := Hd.mk hP
        clear hP
        subst h2
        go_wp2_with fail
        refine (HM1.out _).mono ?_; rintro en w1 ⟨rfl, hb1⟩
        have B1 := Hd.mk (HB.out.trans (hb1.mono HB.out.size))
        clear hb1
        go_wp2_with fail
        refine ⟨⟨f, 0, _, b, HF2.out, by omega, F1, hb, H, rfl, rfl, rfl, B1⟩, by simp [intOf]; omega⟩
      · rw [if_pos rfl, if_neg h2] at hP
        have H := Hd.mk hP
        have t1 : (0 : Int) < n2 := by omega
        clear hP
        go_wp2_with fail
        refine (HM1.out _).mono ?_; rintro en w1 ⟨rfl, hb1⟩
        have B1 := Hd.mk (HB.out.trans (hb1.mono HB.out.size))
        clear hb1
        go_wp2_with fail
        refine (HM2.out _).mono ?_; rintro en w2 ⟨rfl, hb1⟩
        have B2 := Hd.mk (B1.out.trans (hb1.mono B1.out.size))
        clear hb1
        go_wp2_with fail
        refine ⟨⟨f, n2, _, _, HF2.out, by omega, F1, F2, H, rfl, rfl, rfl, B2⟩, by simp [intOf]; omega⟩
      · rw [if_neg (by decide), if_pos h2] at hP
        have H := Hd.mk hP
        clear hP
        subst h2
        go_wp2_with fail
        refine ⟨⟨f, 0, r, b, HF2.out, by omega, hr, hb, H, rfl, rfl, rfl, HB⟩, by simp [intOf]; omega⟩
      · rw [if_neg (by decide), if_neg h2] at hP
        have H := Hd.mk hP
        have t1 : (0 : Int) < n2 := by omega
        clear hP
        go_wp2_with fail
        refine (HM2.out _).mono ?_; rintro en w2 ⟨rfl, hb1⟩
        have B2 := Hd.mk (HB.out.trans (hb1.mono HB.out.size))
        clear hb1
        go_wp2_with fail
        refine ⟨⟨f, n2, r, _, HF2.out, by omega, hr, F2, H, rfl, rfl, rfl, B2⟩, by simp [intOf]; omega⟩

theorem F64_powF : ∀ f n r b, F64 r → F64 b → F64 (powF f n r b)
  | 0, _, _, _, hr, _ => hr
  | f + 1, n, r, b, hr, hb => by
    unfold powF
    split
    · exact hr
    · refine F64_powF f _ _ _ ?_ ?_
      · split
        · exact F64_fmul _ _
        · exact hr
      · split
        · exact hb
        · exact F64_fmul _ _

set_option maxHeartbeats 3200000 in
/-- The reference's Pow, of any bits and power. -/
theorem rPow_any (x : Nat) (n : Int) (hx : F64 x) (w : World) :
    Calls Try.prog 34 #[.int .u64 x, .int .i64 n] w (URet (fpow x n) w) := by
  by_cases h1 : 1048576 < n ∨ n < -1048576
  · have HV : Hd ((9221120237041090561 : Int) = ((fpow x n : Nat) : Int)) := ⟨by unfold fpow; rw [if_pos h1]; rfl⟩
    rcases h1 with h1 | h1
    · go_enter Try.func34, Try.ntmps34
      go_wp2_with fail
      go_ret
      exact ⟨ret_int HV.out, Below.refl _ _⟩
    · have h2 : decide (1048576 < n) = false := by simp; omega
      go_enter Try.func34, Try.ntmps34
      go_wp2_with fail
      go_ret
      exact ⟨ret_int HV.out, Below.refl _ _⟩
  · by_cases h2 : n < 0
    · obtain ⟨m, hm⟩ : ∃ m : Nat, -n = (m : Int) := ⟨n.natAbs, by omega⟩
      have HV : Hd (fdiv oneW (powF 64 m oneW x) = fpow x n) := ⟨by unfold fpow; rw [if_neg h1, if_pos h2, show n.natAbs = m by omega]⟩
      have HP := Hd.mk fun w => rPow_pos x m hx (by omega) w
      have HD := Hd.mk (rDiv_any oneW (powF 64 m oneW x) one_w.w (F64_powF _ _ _ _ one_w.w hx))
      rw [HV.out] at HD
      generalize powF 64 m oneW x = P at *
      have t1 : decide (1048576 < n) = false := by simp; omega
      have t2 : decide (n < -1048576) = false := by simp; omega
      have t3 : decide (n < 0) = true := by simp; omega
      have t4 : -1048576 ≤ n := by omega
      clear h1
      go_enter Try.func34, Try.ntmps34
      go_wp2_with fail
      refine (HP.out _).mono ?_; rintro en w1 ⟨rfl, hb1⟩
      have B1 := Hd.mk hb1
      clear hb1
      go_wp2_with fail
      refine (HD.out _).mono ?_; rintro en w2 ⟨rfl, hb1⟩
      have B2 := Hd.mk (B1.out.trans (hb1.mono B1.out.size))
      clear hb1
      go_wp2_with fail
      go_ret
      exact ⟨rfl, B2.out⟩
    · have := rPow_pos x n.toNat hx (by omega) w
      rw [show ((n.toNat : Nat) : Int) = n by omega] at this
      unfold fpow
      rw [if_neg h1, if_neg h2, show n.natAbs = n.toNat by omega]
      exact this

end Go.Proofs.Ytjhkjekbadbgnaa
