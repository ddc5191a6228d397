/- The walk of the reference's rounded. -/
import Derived.Test.YtjhkjekbadbgnaaRd
import Derived.Test.YtjhkjekbadbgnaaDr
namespace Go.Proofs.Ytjhkjekbadbgnaa
open Go.RowKit
set_option linter.unusedSimpArgs false
set_option linter.unusedVariables false

theorem two_digits (x : Nat) (h : x < 18446744073709551616) : dg x 0 + dg x 1 * 4294967296 = x := by
  unfold dg
  rw [Nat.pow_zero, Nat.div_one, Nat.pow_one]
  show x % 4294967296 + x / 4294967296 % 4294967296 * 4294967296 = x
  omega
theorem dg_even (x : Nat) : dg x 0 % 2 = x % 2 := by
  unfold dg
  rw [Nat.pow_zero, Nat.div_one]
  show x % 4294967296 % 2 = x % 2
  omega

theorem lsb_up (d : Nat) (e : Int) (h : d ≠ 0) (hc : lsb d e ≤ e) : d * 2 ^ (e - lsb d e).toNat < 9007199254740992 := by
  have h1 := bl_lt (d * 2 ^ (e - lsb d e).toNat)
  rw [bl_shift h] at h1
  refine Nat.lt_of_lt_of_le h1 ?_
  rw [show 9007199254740992 = 2 ^ 53 by decide]
  refine Nat.pow_le_pow_right (by decide) ?_
  unfold lsb at *
  omega
theorem lsb_down (d : Nat) (e : Int) : d / 2 ^ (lsb d e - e).toNat < 9007199254740992 := by
  rw [Nat.div_lt_iff_lt_mul (Nat.pow_pos (by decide)), show 9007199254740992 = 2 ^ 53 by decide, ← Nat.pow_add]
  refine Nat.lt_of_lt_of_le (bl_lt d) (Nat.pow_le_pow_right (by decide) ?_)
  unfold lsb
  omega

theorem digit_0 (a : Option Addr) (x c : Nat) (w : World) (h : Dgs w a x) (hs : nd x ≤ 1073741824) :
    Calls Try.prog 87 #[.slice a (nd x) c, .int .i64 0] w fun e w' => e = .returned (.int .u64 (dg x 0)) ∧ w' = w :=
  (digit_any a x c 0 w h hs).mono fun _ _ h => ⟨h.1, h.2.symm⟩
theorem digit_1 (a : Option Addr) (x c : Nat) (w : World) (h : Dgs w a x) (hs : nd x ≤ 1073741824) :
    Calls Try.prog 87 #[.slice a (nd x) c, .int .i64 1] w fun e w' => e = .returned (.int .u64 (dg x 1)) ∧ w' = w :=
  (digit_any a x c 1 w h hs).mono fun _ _ h => ⟨h.1, h.2.symm⟩

theorem digit_i (a : Option Addr) (x c : Nat) (i : Int) (hi : 0 ≤ i) (w : World) (h : Dgs w a x) (hs : nd x ≤ 1073741824) :
    Calls Try.prog 87 #[.slice a (nd x) c, .int .i64 i] w fun e w' => e = .returned (.int .u64 (dg x i.toNat)) ∧ w' = w := by
  have := digit_any a x c i.toNat w h hs
  rw [show ((i.toNat : Nat) : Int) = i by omega] at this
  exact this.mono fun _ _ h => ⟨h.1, h.2.symm⟩

/-- It returns a word. -/
def URet (u : Nat) (w : World) (en : Ending) (w' : World) : Prop := en = .returned (.int .u64 u) ∧ Below w.heap.size w w'

set_option maxHeartbeats 16000000 in
set_option maxRecDepth 100000 in
theorem rounded_any (a : Option Addr) (d c : Nat) (e : Int) (more : Bool) (w : World) (h : Dgs w a d) (hs : nd d ≤ 1000000) (h0 : d ≠ 0) (h1 : bl d + e ≤ 1100) (h2 : -1200 ≤ bl d + e) :
    Calls Try.prog 110 #[.slice a (nd d) c, .int .i64 e, .bool more, .int .i64 53, .int .i64 (-1074)] w (URet (rnd d e more) w) := by
  have hbl : bl d ≤ 32 * nd d := bl_le (by rw [← BB_pow]; exact lt_nd d)
  have H := Hd.mk h
  have hb0 := bl_pos h0
  have hLe : Hd (∀ w, Dgs w a d → Calls Try.prog 71 #[.slice a (nd d) c] w fun en w' => en = .returned (.int .i64 (bl d)) ∧ w = w') := ⟨fun w h => len_any a d c w h (by omega)⟩
  obtain ⟨L, hL⟩ : ∃ L, lsb d e = L := ⟨_, rfl⟩
  have hm : max ((bl d : Int) - 53 + e) (-1074) = L := by rw [← hL]; rfl
  have hL1 : -1074 ≤ L := by omega
  have hL2 : L ≤ 1047 := by omega
  obtain ⟨T, hT⟩ : ∃ T : Nat, (T : Int) = L + 1074 := ⟨(L + 1074).toNat, by omega⟩
  have hT2 : T ≤ 2121 := by omega
  have hsub : L - -1074 = (T : Int) := by omega
  have hsub2 : L + 1074 = (T : Int) := by omega
  obtain ⟨TT, hTT⟩ : ∃ TT, T * 4503599627370496 = TT := ⟨_, rfl⟩
  have p52 : (T : Int) * 4503599627370496 = (TT : Int) := by omega
  have hTT2 : TT ≤ 9552134809652822016 := by omega
  by_cases hc : L ≤ e
  · have d1 : decide (L ≤ e) = true := by simp; exact hc
    have hq := lsb_up d e h0 (by rw [hL]; exact hc)
    have HU : Hd (∀ w, Dgs w a d → Calls Try.prog 86 #[.slice a (nd d) c, .int .i64 (e - L)] w (DRet (d * 2 ^ (e - L).toNat) w)) := ⟨fun w h => by
      have := shiftUp_any a d c (e - L).toNat w h (by omega) (by omega)
      rwa [show (((e - L).toNat : Nat) : Int) = e - L by omega] at this⟩
    have HR : Hd (rnd d e more = TT + d * 2 ^ (e - L).toNat) := ⟨by unfold rnd; rw [hL, if_pos hc, show (L + 1074).toNat = T by omega, hTT]⟩
    rw [HR.out]
    rw [hL] at hq
    generalize d * 2 ^ (e - L).toNat = Q at *
    have hn : nd Q ≤ 2 := nd_le (by rw [BB_pow]; exact Nat.lt_trans hq (by decide))
    have tq := two_digits Q (by omega)
    have l0 := dg_lt Q 0
    have l1 := dg_lt Q 1
    clear hL hT HR h0 hTT
    generalize bl d = B at *
    generalize nd d = N at *
    go_enter Try.func110, Try.ntmps110
    go_wp2_with fail
    refine (hLe.out _ H.out).mono ?_; rintro en w' ⟨rfl, rfl⟩
    go_wp2_with fail
    refine (HU.out _ H.out).mono ?_; rintro en w1 ⟨a1, c1, rfl, hc1, hd1, hb1, hf1⟩
    have HD := Hd.mk hd1
    have HB := Hd.mk hb1
    clear hc1 hd1 hb1 hf1
    go_wp2_with fail
    go_quiet ((go_at_call 87; exact Calls.quiet_of_same (digit_i a1 Q c1 _ (by decide) _ (HD.out.drewN _) (by omega))))
    go_wp2_with fail
    go_ret
    exact ⟨ret_int (by omega), below_drewN HB.out nq⟩
  · have d1 : decide (L ≤ e) = false := by simp; omega
    have hq := lsb_down d e
    rw [hL] at hq
    obtain ⟨k, hk⟩ : ∃ k : Nat, L - e = (k : Int) + 1 := ⟨(L - e - 1).toNat, by omega⟩
    have hk2 : k ≤ 100000000 := by omega
    have hkk : (L - e).toNat = k + 1 := by omega
    have HS1 : Hd (∀ w, Dgs w a d → Calls Try.prog 88 #[.slice a (nd d) c, .int .i64 ((k : Int) + 1)] w (D2Ret (d / 2 ^ (k + 1)) (nz (d % 2 ^ (k + 1))) w)) := ⟨fun w h => by
      have := shiftDown_any a d c (k + 1) w h (by omega) (by omega)
      rwa [show (((k + 1 : Nat)) : Int) = (k : Int) + 1 by omega] at this⟩
    have HS2 : Hd (∀ w, Dgs w a d → Calls Try.prog 88 #[.slice a (nd d) c, .int .i64 k] w (D2Ret (d / 2 ^ k) (nz (d % 2 ^ k)) w)) := ⟨fun w h => shiftDown_any a d c k w h (by omega) (by omega)⟩
    have HR : Hd (rnd d e more = TT + (d / 2 ^ (k + 1) + (if d / 2 ^ k % 2 = 1 ∧ (nz (d % 2 ^ k) = true ∨ more = true ∨ d / 2 ^ (k + 1) % 2 = 1) then 1 else 0))) := ⟨by
      unfold rnd rh
      rw [hL, if_neg hc, show (L + 1074).toNat = T by omega, hTT, hkk, Nat.add_sub_cancel]
      simp only [nz_iff]⟩
    rw [HR.out]
    clear HR
    rw [hkk] at hq
    have hnH : nd (d / 2 ^ k) ≤ 1000000 := Nat.le_trans (nd_mono (Nat.div_le_self _ _)) hs
    generalize d / 2 ^ (k + 1) = Q at *
    generalize d / 2 ^ k = R at *
    generalize nz (d % 2 ^ (k + 1)) = l1b at *
    generalize nz (d % 2 ^ k) = lost at *
    obtain ⟨inc, hinc⟩ : ∃ inc : Nat, (if R % 2 = 1 ∧ (lost = true ∨ more = true ∨ Q % 2 = 1) then 1 else 0) = inc := ⟨_, rfl⟩
    rw [hinc]
    have HI := Hd.mk hinc
    clear hinc
    have hn : nd Q ≤ 2 := nd_le (by rw [BB_pow]; exact Nat.lt_trans hq (by decide))
    have tq := two_digits Q (by omega)
    have te := dg_even R
    have l0 := dg_lt Q 0
    have l1 := dg_lt Q 1
    have lr := dg_lt R 0
    clear hL hT h0 hTT hkk
    generalize bl d = B at *
    generalize nd d = N at *
    go_enter Try.func110, Try.ntmps110
    go_wp2_with fail
    refine (hLe.out _ H.out).mono ?_; rintro en w' ⟨rfl, rfl⟩
    go_wp2_with fail
    refine (HS1.out _ H.out).mono ?_; rintro en w1 ⟨a1, c1, rfl, hc1, hd1, hb1, hf1⟩
    have HD := Hd.mk hd1
    have HB := Hd.mk hb1
    clear hc1 hd1 hb1 hf1
    go_wp2_with fail
    refine (HS2.out _ (H.out.below HB.out)).mono ?_; rintro en w2 ⟨a2, c2, rfl, hc2, hd2, hb2, hf2⟩
    have HD2 := Hd.mk (HD.out.below hb2)
    have HE2 := Hd.mk hd2
    have HB2 := Hd.mk (HB.out.trans (hb2.mono HB.out.size))
    clear hc2 hd2 hb2 hf2
    go_wp2_with fail
    refine (digit_i a1 Q c1 0 (by decide) _ HD2.out (by omega)).mono ?_; rintro en w' ⟨rfl, rfl⟩
    go_wp2_with fail
    refine (digit_i a1 Q c1 1 (by decide) _ HD2.out (by omega)).mono ?_; rintro en w' ⟨rfl, rfl⟩
    go_wp2_with fail
    have vq : ((dg Q (Int.toNat 0) : Nat) : Int) + ((dg Q (Int.toNat 1) : Nat) : Int) * 4294967296 = (Q : Int) := by
      show ((dg Q 0 : Nat) : Int) + ((dg Q 1 : Nat) : Int) * 4294967296 = (Q : Int)
      omega
    rw [show ((dg Q 0 : Nat) : Int) + ((dg Q 1 : Nat) : Int) * 4294967296 = (Q : Int) from vq]
    clear vq tq l0 l1
    refine (digit_i a2 R c2 0 (by decide) _ HE2.out (by omega)).mono ?_; rintro en w3 ⟨rfl, rfl⟩
    have te' : dg R (Int.toNat 0) % 2 = R % 2 := te
    have lr' : dg R (Int.toNat 0) < 4294967296 := lr
    clear te lr
    generalize dg R (Int.toNat 0) = D at *
    rcases (by omega : D % 2 = 0 ∨ D % 2 = 1) with hbit | hbit
    · have db : ((D : Int) % 2 == 1) = false := by rw [beq_eq_false_iff_ne]; omega
      have hi : inc = 0 := by rw [← HI.out, if_neg (by omega)]
      subst hi
      clear te' hbit HI
      go_wp2_with fail
      go_ret
      exact ⟨ret_int (by omega), HB2.out⟩
    · have db : ((D : Int) % 2 == 1) = true := by rw [beq_iff_eq]; omega
      cases lost
      · cases more
        · rcases (by omega : Q % 2 = 0 ∨ Q % 2 = 1) with hQ | hQ
          · have dq : ((Q : Int) % 2 == 1) = false := by rw [beq_eq_false_iff_ne]; omega
            have hi : inc = 0 := by rw [← HI.out, if_neg (by simp; omega)]
            subst hi
            clear te' hbit HI hQ
            go_wp2_with fail
            go_ret
            exact ⟨ret_int (by omega), HB2.out⟩
          · have dq : ((Q : Int) % 2 == 1) = true := by rw [beq_iff_eq]; omega
            have hi : inc = 1 := by rw [← HI.out, if_pos ⟨by omega, .inr (.inr hQ)⟩]
            subst hi
            clear te' hbit HI hQ
            go_wp2_with fail
            go_ret
            exact ⟨ret_int (by omega), HB2.out⟩
        · have hi : inc = 1 := by rw [← HI.out, if_pos ⟨by omega, .inr (.inl rfl)⟩]
          subst hi
          clear te' hbit HI
          go_wp2_with fail
          go_ret
          exact ⟨ret_int (by omega), HB2.out⟩
      · have hi : inc = 1 := by rw [← HI.out, if_pos ⟨by omega, .inl rfl⟩]
        subst hi
        clear te' hbit HI
        go_wp2_with fail
        go_ret
        exact ⟨ret_int (by omega), HB2.out⟩

end Go.Proofs.Ytjhkjekbadbgnaa
