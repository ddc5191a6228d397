/- Put together out of several texts: Rd Re Rn Ro2 Ar Ap Aq Au Av Ax Ay Az Hr Bl. -/
import Derived.Test.YteikihidblcljaaM3
import Derived.Test.YteikihidblcljaaM1
import Derived.Test.YteikihidblcljaaM2
import Derived.Laws.AppendOwn

/- Plain: rounding to a double, by dropping digits; it does not hang on how many digits are handed in. No program. -/
namespace Go.Proofs.Yteikihidblcljaa

/-- d / 2^k to the nearest, k from 1 on, and a little more, if more. -/
def rh (d k : Nat) (more : Bool) : Nat :=
  d / 2 ^ k + (if d / 2 ^ (k - 1) % 2 = 1 ∧ (d % 2 ^ (k - 1) ≠ 0 ∨ more = true ∨ d / 2 ^ k % 2 = 1) then 1 else 0)

/-- The place of the last digit that is kept. -/
def lsb (d : Nat) (e : Int) : Int := max ((bl d : Int) - 53 + e) (-1074)

/-- The rung that is nearest to d * 2^e. -/
def rnd (d : Nat) (e : Int) (more : Bool) : Nat :=
  (lsb d e + 1074).toNat * 4503599627370496 + (if lsb d e ≤ e then d * 2 ^ (e - lsb d e).toNat else rh d (lsb d e - e).toNat more)

theorem rh_scale (d' j k : Nat) (more' more : Bool) (hk : 0 < k) (hm : more = true ↔ (d' % 2 ^ j ≠ 0 ∨ more' = true)) : rh d' (k + j) more' = rh (d' / 2 ^ j) k more := by
  unfold rh
  have e1 : d' / 2 ^ (k + j) = d' / 2 ^ j / 2 ^ k := by rw [Nat.div_div_eq_div_mul, ← Nat.pow_add, Nat.add_comm]
  have e2 : d' / 2 ^ (k + j - 1) = d' / 2 ^ j / 2 ^ (k - 1) := by rw [Nat.div_div_eq_div_mul, ← Nat.pow_add]; congr 2; omega
  have e3 : d' % 2 ^ (k + j - 1) = d' % 2 ^ j + 2 ^ j * (d' / 2 ^ j % 2 ^ (k - 1)) := by
    rw [show k + j - 1 = j + (k - 1) by omega, Nat.pow_add, Nat.mod_mul]
  have e4 : d' % 2 ^ (k + j - 1) ≠ 0 ↔ (d' % 2 ^ j ≠ 0 ∨ d' / 2 ^ j % 2 ^ (k - 1) ≠ 0) := by
    rw [e3]
    have hp : 2 ^ j ≠ 0 := by have := Nat.pow_pos (n := j) (show 0 < 2 by decide); omega
    constructor
    · intro h
      rcases Decidable.em (d' % 2 ^ j = 0) with h1 | h1
      · right; intro h2; rw [h1, h2] at h; simp at h
      · left; exact h1
    · intro h h0
      have h1 : d' % 2 ^ j = 0 := by omega
      have h2 : 2 ^ j * (d' / 2 ^ j % 2 ^ (k - 1)) = 0 := by omega
      rcases Nat.mul_eq_zero.1 h2 with h3 | h3
      · exact hp h3
      · rcases h with h | h
        · exact h h1
        · exact h h3
  rw [e1, e2]
  congr 1
  have ic : ∀ (P Q : Prop) [Decidable P] [Decidable Q], (P ↔ Q) → (if P then 1 else 0 : Nat) = if Q then 1 else 0 := fun P Q _ _ h => by
    by_cases hq : Q
    · rw [if_pos hq, if_pos (h.2 hq)]
    · rw [if_neg hq, if_neg (fun hp => hq (h.1 hp))]
  refine ic _ _ ?_
  rw [e4, hm]
  constructor
  · rintro ⟨h1, (h2 | h2) | h2 | h2⟩
    · exact ⟨h1, .inr (.inl (.inl h2))⟩
    · exact ⟨h1, .inl h2⟩
    · exact ⟨h1, .inr (.inl (.inr h2))⟩
    · exact ⟨h1, .inr (.inr h2)⟩
  · rintro ⟨h1, h2 | (h2 | h2) | h2⟩
    · exact ⟨h1, .inl (.inr h2)⟩
    · exact ⟨h1, .inl (.inl h2)⟩
    · exact ⟨h1, .inr (.inl h2)⟩
    · exact ⟨h1, .inr (.inr h2)⟩

theorem rh_exact (d k : Nat) (hk : 0 < k) : rh (d * 2 ^ k) k false = d := by
  unfold rh
  have hp := Nat.pow_pos (n := k) (show 0 < 2 by decide)
  have e1 : d * 2 ^ k / 2 ^ k = d := Nat.mul_div_cancel _ hp
  have e2 : d * 2 ^ k / 2 ^ (k - 1) % 2 = 0 := by
    have : d * 2 ^ k = d * 2 * 2 ^ (k - 1) := by
      rw [Nat.mul_assoc, ← Nat.pow_succ', show (k - 1).succ = k by omega]
    rw [this, Nat.mul_div_cancel _ (Nat.pow_pos (by decide))]
    omega
  rw [e1, e2, if_neg (by omega)]
  rfl

theorem bl_pos {d : Nat} (h : d ≠ 0) : 0 < bl d := by unfold bl; rw [if_neg h]; omega

theorem bl_shift {d : Nat} (h : d ≠ 0) (k : Nat) : bl (d * 2 ^ k) = bl d + k := by
  have h1 := bl_lt d
  have h2 := bl_pos h
  have h3 := le_of_bl (x := d) (n := bl d - 1) (by omega)
  have hp := Nat.pow_pos (n := k) (show 0 < 2 by decide)
  rw [show bl d + k = (bl d - 1 + k) + 1 by omega]
  refine bl_eq ?_ ?_
  · rw [Nat.pow_add]; exact Nat.mul_le_mul_right _ h3
  · rw [show bl d - 1 + k + 1 = bl d + k by omega, Nat.pow_add]
    exact Nat.mul_lt_mul_of_pos_right h1 hp

theorem bl_div {d j : Nat} (h : d / 2 ^ j ≠ 0) : bl d = bl (d / 2 ^ j) + j := by
  have h1 := bl_lt (d / 2 ^ j)
  have h2 := bl_pos h
  have h3 := le_of_bl (x := d / 2 ^ j) (n := bl (d / 2 ^ j) - 1) (by omega)
  have hp := Nat.pow_pos (n := j) (show 0 < 2 by decide)
  rw [show bl (d / 2 ^ j) + j = (bl (d / 2 ^ j) - 1 + j) + 1 by omega]
  generalize bl (d / 2 ^ j) = b at *
  refine bl_eq ?_ ?_
  · rw [Nat.pow_add]
    exact (Nat.le_div_iff_mul_le hp).1 h3
  · rw [show b - 1 + j + 1 = b + j by omega, Nat.pow_add]
    exact (Nat.div_lt_iff_lt_mul hp).1 h1

/-- The same number with more digits. -/
theorem rnd_scale (d k : Nat) (e : Int) (h : d ≠ 0) : rnd (d * 2 ^ k) (e - k) false = rnd d e false := by
  have hl : lsb (d * 2 ^ k) (e - k) = lsb d e := by unfold lsb; rw [bl_shift h]; congr 1; omega
  unfold rnd
  rw [hl]
  congr 1
  generalize lsb d e = L
  by_cases h1 : L ≤ e - k
  · rw [if_pos h1, if_pos (by omega), Nat.mul_assoc, ← Nat.pow_add]
    congr 2; omega
  · rw [if_neg h1]
    by_cases h2 : L ≤ e
    · rw [if_pos h2]
      have e1 : d * 2 ^ k = d * 2 ^ (e - L).toNat * 2 ^ (L - (e - k)).toNat := by
        rw [Nat.mul_assoc, ← Nat.pow_add]; congr 2; omega
      rw [e1]
      exact rh_exact _ _ (by omega)
    · rw [if_neg h2, show (L - (e - k)).toNat = (L - e).toNat + k by omega, rh_scale (d * 2 ^ k) k (L - e).toNat false false (by omega) (by rw [Nat.mul_mod_left]; simp), Nat.mul_div_cancel _ (Nat.pow_pos (by decide))]

/-- A quotient and what is left: further digits make nothing, if there are enough. -/
theorem rnd_sticky (d' j : Nat) (e : Int) (more' more : Bool) (h : 54 ≤ bl (d' / 2 ^ j)) (hm : more = true ↔ (d' % 2 ^ j ≠ 0 ∨ more' = true)) : rnd d' (e - j) more' = rnd (d' / 2 ^ j) e more := by
  have h0 : d' / 2 ^ j ≠ 0 := by intro h0; rw [h0] at h; exact absurd h (by decide)
  have hl : lsb d' (e - j) = lsb (d' / 2 ^ j) e := by unfold lsb; rw [bl_div h0]; congr 1; omega
  have hL : e < lsb (d' / 2 ^ j) e := by unfold lsb; omega
  unfold rnd
  rw [hl]
  congr 1
  generalize lsb (d' / 2 ^ j) e = L at *
  rw [if_neg (by omega), if_neg (by omega), show (L - (e - j)).toNat = (L - e).toNat + j by omega]
  exact rh_scale d' j (L - e).toNat more' more (by omega) hm

theorem log2_bl {d : Nat} (h : d ≠ 0) : (d.log2 : Int) = bl d - 1 := by unfold bl; rw [if_neg h]; omega

/-- The kit's cut is this rounding. -/
theorem cut_rh (s : Bool) (d k : Nat) (hk : 0 < k) : Ieee.Toward.even.cut s d k = rh d k false := by
  unfold Ieee.Toward.cut
  simp only
  by_cases hc : k ≤ d.log2 + 2
  · rw [Nat.min_eq_left hc, Nat.one_shiftLeft]
    unfold rh
    congr 1
    have e : 2 ^ k = 2 * 2 ^ (k - 1) := by rw [← Nat.pow_succ', show (k - 1).succ = k by omega]
    have e1 : d % 2 ^ k = d % 2 ^ (k - 1) + 2 ^ (k - 1) * (d / 2 ^ (k - 1) % 2) := by
      conv => lhs; rw [show k = (k - 1) + 1 by omega, Nat.pow_succ, Nat.mod_mul]
    have l : d % 2 ^ (k - 1) < 2 ^ (k - 1) := Nat.mod_lt _ (Nat.pow_pos (by decide))
    rw [e1, e]
    generalize d / (2 * 2 ^ (k - 1)) = low at *
    generalize d % 2 ^ (k - 1) = r at *
    generalize d / 2 ^ (k - 1) = q at *
    generalize 2 ^ (k - 1) = g at *
    rcases (by omega : q % 2 = 0 ∨ q % 2 = 1) with h2 | h2
    · rw [h2, if_neg (by omega), show decide (2 * g < 2 * (r + g * 0)) = false by simp; omega, show (2 * g == 2 * (r + g * 0)) = false by rw [beq_eq_false_iff_ne]; omega]
      rfl
    · rw [h2]
      by_cases h3 : r = 0
      · subst h3
        rw [show decide (2 * g < 2 * (0 + g * 1)) = false by simp, show (2 * g == 2 * (0 + g * 1)) = true by rw [beq_iff_eq]; omega]
        by_cases h4 : low % 2 = 1
        · rw [if_pos ⟨rfl, .inr (.inr h4)⟩, show (low % 2 == 1) = true by rw [beq_iff_eq]; exact h4]; rfl
        · rw [if_neg (by simp; omega), show (low % 2 == 1) = false by rw [beq_eq_false_iff_ne]; exact h4]; rfl
      · rw [show decide (2 * g < 2 * (r + g * 1)) = true by simp; omega, if_pos ⟨rfl, .inl h3⟩]
        rfl
  · rw [Nat.min_eq_right (by omega), Nat.one_shiftLeft]
    have hl : d < 2 ^ (d.log2 + 1) := Nat.lt_log2_self
    have h2 : 2 ^ (d.log2 + 2) = 2 * 2 ^ (d.log2 + 1) := Nat.pow_succ'
    have h3 : 2 ^ (d.log2 + 1) ≤ 2 ^ (k - 1) := Nat.pow_le_pow_right (by decide) (by omega)
    have h4 : 2 ^ (k - 1) ≤ 2 ^ k := Nat.pow_le_pow_right (by decide) (by omega)
    unfold rh
    rw [Nat.div_eq_of_lt (by omega : d < 2 ^ (d.log2 + 2)), Nat.mod_eq_of_lt (by omega : d < 2 ^ (d.log2 + 2)), Nat.div_eq_of_lt (by omega : d < 2 ^ k), Nat.div_eq_of_lt (by omega : d < 2 ^ (k - 1)), if_neg (by omega)]
    rw [show decide (2 ^ (d.log2 + 2) < 2 * d) = false by simp; omega, show (2 ^ (d.log2 + 2) == 2 * d) = false by rw [beq_eq_false_iff_ne]; omega]
    rfl

/-- The kit's rounding, told so. -/
theorem nearest_rnd (s : Bool) (d : Nat) (e : Int) (h : d ≠ 0) : dbl.nearest s d e = dbl.word s (min (rnd d e false) 9218868437227405312) := by
  unfold Ieee.Format.nearest
  rw [if_neg h]
  have hL : max (e + d.log2 - dbl.fractionBits) dbl.leastPlace = lsb d e := by
    unfold lsb
    rw [dbl_lp, log2_bl h, show ((dbl.fractionBits : Nat) : Int) = 52 from rfl]
    congr 1; omega
  dsimp only
  rw [hL, dbl_lp, dbl_bin, dbl_inf]
  unfold rnd
  generalize lsb d e = L
  refine congrArg (fun z => dbl.word s (min z 9218868437227405312)) ?_
  rw [show L - -1074 = L + 1074 by omega]
  refine congrArg (fun z => (L + 1074).toNat * 4503599627370496 + z) ?_
  by_cases hc : L ≤ e
  · rw [if_pos hc, show (L - e).toNat = 0 by omega]
    rw [Nat.shiftLeft_eq]
    unfold Ieee.Toward.cut
    simp [Nat.mod_one]
  · rw [if_neg hc, show (e - L).toNat = 0 by omega, Nat.shiftLeft_zero]
    exact cut_rh s d _ (by omega)

end Go.Proofs.Yteikihidblcljaa

/- The walk of the reference's rounded. -/
namespace Go.Proofs.Yteikihidblcljaa
open Go.RowKit
set_option linter.unusedSimpArgs false
set_option linter.unusedVariables false

theorem two_digits (x : Nat) (h : x < 18446744073709551616) : dg x 0 + dg x 1 * 4294967296 = x := by
  unfold dg
  rw [Nat.pow_zero, Nat.div_one, Nat.pow_one]
  show x % 4294967296 + x / 4294967296 % 4294967296 * 4294967296 = x
  omega
theorem dg_even (x : Nat) : dg x 0 % 2 = x % 2 := by
  unfold dg
  rw [Nat.pow_zero, Nat.div_one]
  show x % 4294967296 % 2 = x % 2
  omega

theorem lsb_up (d : Nat) (e : Int) (h : d ≠ 0) (hc : lsb d e ≤ e) : d * 2 ^ (e - lsb d e).toNat < 9007199254740992 := by
  have h1 := bl_lt (d * 2 ^ (e - lsb d e).toNat)
  rw [bl_shift h] at h1
  refine Nat.lt_of_lt_of_le h1 ?_
  rw [show 9007199254740992 = 2 ^ 53 by decide]
  refine Nat.pow_le_pow_right (by decide) ?_
  unfold lsb at *
  omega
theorem lsb_down (d : Nat) (e : Int) : d / 2 ^ (lsb d e - e).toNat < 9007199254740992 := by
  rw [Nat.div_lt_iff_lt_mul (Nat.pow_pos (by decide)), show 9007199254740992 = 2 ^ 53 by decide, ← Nat.pow_add]
  refine Nat.lt_of_lt_of_le (bl_lt d) (Nat.pow_le_pow_right (by decide) ?_)
  unfold lsb
  omega

theorem digit_0 (a : Option Addr) (x c : Nat) (w : World) (h : Dgs w a x) (hs : nd x ≤ 1073741824) :
    Calls Try.prog 130 #[.slice a (nd x) c, .int .i64 0] w fun e w' => e = .returned (.int .u64 (dg x 0)) ∧ w' = w :=
  (digit_any a x c 0 w h hs).mono fun _ _ h => ⟨h.1, h.2.symm⟩
theorem digit_1 (a : Option Addr) (x c : Nat) (w : World) (h : Dgs w a x) (hs : nd x ≤ 1073741824) :
    Calls Try.prog 130 #[.slice a (nd x) c, .int .i64 1] w fun e w' => e = .returned (.int .u64 (dg x 1)) ∧ w' = w :=
  (digit_any a x c 1 w h hs).mono fun _ _ h => ⟨h.1, h.2.symm⟩

theorem digit_i (a : Option Addr) (x c : Nat) (i : Int) (hi : 0 ≤ i) (w : World) (h : Dgs w a x) (hs : nd x ≤ 1073741824) :
    Calls Try.prog 130 #[.slice a (nd x) c, .int .i64 i] w fun e w' => e = .returned (.int .u64 (dg x i.toNat)) ∧ w' = w := by
  have := digit_any a x c i.toNat w h hs
  rw [show ((i.toNat : Nat) : Int) = i by omega] at this
  exact this.mono fun _ _ h => ⟨h.1, h.2.symm⟩

/-- It returns a word. -/
def URet (u : Nat) (w : World) (en : Ending) (w' : World) : Prop := en = .returned (.int .u64 u) ∧ Below w.heap.size w w'

set_option maxHeartbeats 16000000 in
set_option maxRecDepth 100000 in
theorem rounded_any (a : Option Addr) (d c : Nat) (e : Int) (more : Bool) (w : World) (h : Dgs w a d) (hs : nd d ≤ 1000000) (h0 : d ≠ 0) (h1 : bl d + e ≤ 1100) (h2 : -1200 ≤ bl d + e) :
    Calls Try.prog 136 #[.slice a (nd d) c, .int .i64 e, .bool more, .int .i64 53, .int .i64 (-1074)] w (URet (rnd d e more) w) := by
  have hbl : bl d ≤ 32 * nd d := bl_le (by rw [← BB_pow]; exact lt_nd d)
  have H := Hd.mk h
  have hb0 := bl_pos h0
  have hLe : Hd (∀ w, Dgs w a d → Calls Try.prog 118 #[.slice a (nd d) c] w fun en w' => en = .returned (.int .i64 (bl d)) ∧ w = w') := ⟨fun w h => len_any a d c w h (by omega)⟩
  obtain ⟨L, hL⟩ : ∃ L, lsb d e = L := ⟨_, rfl⟩
  have hm : max ((bl d : Int) - 53 + e) (-1074) = L := by rw [← hL]; rfl
  have hL1 : -1074 ≤ L := by omega
  have hL2 : L ≤ 1047 := by omega
  obtain ⟨T, hT⟩ : ∃ T : Nat, (T : Int) = L + 1074 := ⟨(L + 1074).toNat, by omega⟩
  have hT2 : T ≤ 2121 := by omega
  have hsub : L - -1074 = (T : Int) := by omega
  have hsub2 : L + 1074 = (T : Int) := by omega
  obtain ⟨TT, hTT⟩ : ∃ TT, T * 4503599627370496 = TT := ⟨_, rfl⟩
  have p52 : (T : Int) * 4503599627370496 = (TT : Int) := by omega
  have hTT2 : TT ≤ 9552134809652822016 := by omega
  by_cases hc : L ≤ e
  · have d1 : decide (L ≤ e) = true := by simp; exact hc
    have hq := lsb_up d e h0 (by rw [hL]; exact hc)
    have HU : Hd (∀ w, Dgs w a d → Calls Try.prog 120 #[.slice a (nd d) c, .int .i64 (e - L)] w (DRet (d * 2 ^ (e - L).toNat) w)) := ⟨fun w h => by
      have := shiftUp_any a d c (e - L).toNat w h (by omega) (by omega)
      rwa [show (((e - L).toNat : Nat) : Int) = e - L by omega] at this⟩
    have HR : Hd (rnd d e more = TT + d * 2 ^ (e - L).toNat) := ⟨by unfold rnd; rw [hL, if_pos hc, show (L + 1074).toNat = T by omega, hTT]⟩
    rw [HR.out]
    rw [hL] at hq
    generalize d * 2 ^ (e - L).toNat = Q at *
    have hn : nd Q ≤ 2 := nd_le (by rw [BB_pow]; exact Nat.lt_trans hq (by decide))
    have tq := two_digits Q (by omega)
    have l0 := dg_lt Q 0
    have l1 := dg_lt Q 1
    clear hL hT HR h0 hTT
    generalize bl d = B at *
    generalize nd d = N at *
    go_enter Try.func136, Try.ntmps136
    go_wp2_with fail
    refine (hLe.out _ H.out).mono ?_; rintro en w' ⟨rfl, rfl⟩
    go_wp2_with fail
    refine (HU.out _ H.out).mono ?_; rintro en w1 ⟨a1, c1, rfl, hc1, hd1, hb1, hf1⟩
    have HD := Hd.mk hd1
    have HB := Hd.mk hb1
    clear hc1 hd1 hb1 hf1
    go_wp2_with fail
    go_quiet ((go_at_call 130; exact Calls.quiet_of_same (digit_i a1 Q c1 _ (by decide) _ (HD.out.drewN _) (by omega))))
    go_wp2_with fail
    go_ret
    exact ⟨ret_int (by omega), below_drewN HB.out nq⟩
  · have d1 : decide (L ≤ e) = false := by simp; omega
    have hq := lsb_down d e
    rw [hL] at hq
    obtain ⟨k, hk⟩ : ∃ k : Nat, L - e = (k : Int) + 1 := ⟨(L - e - 1).toNat, by omega⟩
    have hk2 : k ≤ 100000000 := by omega
    have hkk : (L - e).toNat = k + 1 := by omega
    have HS1 : Hd (∀ w, Dgs w a d → Calls Try.prog 147 #[.slice a (nd d) c, .int .i64 ((k : Int) + 1)] w (D2Ret (d / 2 ^ (k + 1)) (nz (d % 2 ^ (k + 1))) w)) := ⟨fun w h => by
      have := shiftDown_any a d c (k + 1) w h (by omega) (by omega)
      rwa [show (((k + 1 : Nat)) : Int) = (k : Int) + 1 by omega] at this⟩
    have HS2 : Hd (∀ w, Dgs w a d → Calls Try.prog 147 #[.slice a (nd d) c, .int .i64 k] w (D2Ret (d / 2 ^ k) (nz (d % 2 ^ k)) w)) := ⟨fun w h => shiftDown_any a d c k w h (by omega) (by omega)⟩
    have HR : Hd (rnd d e more = TT + (d / 2 ^ (k + 1) + (if d / 2 ^ k % 2 = 1 ∧ (nz (d % 2 ^ k) = true ∨ more = true ∨ d / 2 ^ (k + 1) % 2 = 1) then 1 else 0))) := ⟨by
      unfold rnd rh
      rw [hL, if_neg hc, show (L + 1074).toNat = T by omega, hTT, hkk, Nat.add_sub_cancel]
      simp only [nz_iff]⟩
    rw [HR.out]
    clear HR
    rw [hkk] at hq
    have hnH : nd (d / 2 ^ k) ≤ 1000000 := Nat.le_trans (nd_mono (Nat.div_le_self _ _)) hs
    generalize d / 2 ^ (k + 1) = Q at *
    generalize d / 2 ^ k = R at *
    generalize nz (d % 2 ^ (k + 1)) = l1b at *
    generalize nz (d % 2 ^ k) = lost at *
    obtain ⟨inc, hinc⟩ : ∃ inc : Nat, (if R % 2 = 1 ∧ (lost = true ∨ more = true ∨ Q % 2 = 1) then 1 else 0) = inc := ⟨_, rfl⟩
    rw [hinc]
    have HI := Hd.mk hinc
    clear hinc
    have hn : nd Q ≤ 2 := nd_le (by rw [BB_pow]; exact Nat.lt_trans hq (by decide))
    have tq := two_digits Q (by omega)
    have te := dg_even R
    have l0 := dg_lt Q 0
    have l1 := dg_lt Q 1
    have lr := dg_lt R 0
    clear hL hT h0 hTT hkk
    generalize bl d = B at *
    generalize nd d = N at *
    go_enter Try.func136, Try.ntmps136
    go_wp2_with fail
    refine (hLe.out _ H.out).mono ?_; rintro en w' ⟨rfl, rfl⟩
    go_wp2_with fail
    refine (HS1.out _ H.out).mono ?_; rintro en w1 ⟨a1, c1, rfl, hc1, hd1, hb1, hf1⟩
    have HD := Hd.mk hd1
    have HB := Hd.mk hb1
    clear hc1 hd1 hb1 hf1
    go_wp2_with fail
    refine (HS2.out _ (H.out.below HB.out)).mono ?_; rintro en w2 ⟨a2, c2, rfl, hc2, hd2, hb2, hf2⟩
    have HD2 := Hd.mk (HD.out.below hb2)
    have HE2 := Hd.mk hd2
    have HB2 := Hd.mk (HB.out.trans (hb2.mono HB.out.size))
    clear hc2 hd2 hb2 hf2
    go_wp2_with fail
    refine (digit_i a1 Q c1 0 (by decide) _ HD2.out (by omega)).mono ?_; rintro en w' ⟨rfl, rfl⟩
    go_wp2_with fail
    refine (digit_i a1 Q c1 1 (by decide) _ HD2.out (by omega)).mono ?_; rintro en w' ⟨rfl, rfl⟩
    go_wp2_with fail
    have vq : ((dg Q (Int.toNat 0) : Nat) : Int) + ((dg Q (Int.toNat 1) : Nat) : Int) * 4294967296 = (Q : Int) := by
      show ((dg Q 0 : Nat) : Int) + ((dg Q 1 : Nat) : Int) * 4294967296 = (Q : Int)
      omega
    rw [show ((dg Q 0 : Nat) : Int) + ((dg Q 1 : Nat) : Int) * 4294967296 = (Q : Int) from vq]
    clear vq tq l0 l1
    refine (digit_i a2 R c2 0 (by decide) _ HE2.out (by omega)).mono ?_; rintro en w3 ⟨rfl, rfl⟩
    have te' : dg R (Int.toNat 0) % 2 = R % 2 := te
    have lr' : dg R (Int.toNat 0) < 4294967296 := lr
    clear te lr
    generalize dg R (Int.toNat 0) = D at *
    rcases (by omega : D % 2 = 0 ∨ D % 2 = 1) with hbit | hbit
    · have db : ((D : Int) % 2 == 1) = false := by rw [beq_eq_false_iff_ne]; omega
      have hi : inc = 0 := by rw [← HI.out, if_neg (by omega)]
      subst hi
      clear te' hbit HI
      go_wp2_with fail
      go_ret
      exact ⟨ret_int (by omega), HB2.out⟩
    · have db : ((D : Int) % 2 == 1) = true := by rw [beq_iff_eq]; omega
      cases lost
      · cases more
        · rcases (by omega : Q % 2 = 0 ∨ Q % 2 = 1) with hQ | hQ
          · have dq : ((Q : Int) % 2 == 1) = false := by rw [beq_eq_false_iff_ne]; omega
            have hi : inc = 0 := by rw [← HI.out, if_neg (by simp; omega)]
            subst hi
            clear te' hbit HI hQ
            go_wp2_with fail
            go_ret
            exact ⟨ret_int (by omega), HB2.out⟩
          · have dq : ((Q : Int) % 2 == 1) = true := by rw [beq_iff_eq]; omega
            have hi : inc = 1 := by rw [← HI.out, if_pos ⟨by omega, .inr (.inr hQ)⟩]
            subst hi
            clear te' hbit HI hQ
            go_wp2_with fail
            go_ret
            exact ⟨ret_int (by omega), HB2.out⟩
        · have hi : inc = 1 := by rw [← HI.out, if_pos ⟨by omega, .inr (.inl rfl)⟩]
          subst hi
          clear te' hbit HI
          go_wp2_with fail
          go_ret
          exact ⟨ret_int (by omega), HB2.out⟩
      · have hi : inc = 1 := by rw [← HI.out, if_pos ⟨by omega, .inl rfl⟩]
        subst hi
        clear te' hbit HI
        go_wp2_with fail
        go_ret
        exact ⟨ret_int (by omega), HB2.out⟩

end Go.Proofs.Yteikihidblcljaa

/- The walks of the reference's made, far, NearMore, Near. -/
namespace Go.Proofs.Yteikihidblcljaa
open Go.RowKit
set_option linter.unusedSimpArgs false
set_option linter.unusedVariables false

def madeN (s : Bool) (u : Nat) : Nat := if s then min u 9218868437227405312 + 9223372036854775808 else min u 9218868437227405312
theorem madeN_word (s : Bool) (u : Nat) : madeN s u = dbl.word s (min u 9218868437227405312) := by
  unfold madeN Ieee.Format.word
  rw [dbl_sw]
  cases s <;> simp
  omega

theorem made_any (s : Bool) (u : Nat) (hu : u < 18446744073709551616) (w : World) :
    Calls Try.prog 135 #[.bool s, .int .u64 u] w fun e w' => e = .returned (.int .u64 (madeN s u)) ∧ w = w' := by
  obtain ⟨m, hm⟩ : ∃ m, min u 9218868437227405312 = m := ⟨_, rfl⟩
  have hm2 : min (u : Int) 9218868437227405312 = (m : Int) := by omega
  have hm3 : m ≤ 9218868437227405312 := by omega
  have HR : Hd (madeN s u = if s then m + 9223372036854775808 else m) := ⟨by unfold madeN; rw [hm]⟩
  rw [HR.out]
  clear HR hm
  cases s
  · go_enter Try.func135, Try.ntmps135
    go_wp2
    go_ret
    exact ⟨rfl, rfl⟩
  · go_enter Try.func135, Try.ntmps135
    go_wp2
    go_ret
    exact ⟨ret_int (by simp), rfl⟩

/-- One box with a real. -/
theorem far_any (s : Bool) (a : Option Addr) (d c : Nat) (e : Int) (w : World) (h : Dgs w a d) (hs : nd d ≤ 10000000) (he : -1000000000 ≤ e ∧ e ≤ 1000000000) :
    Calls Try.prog 134 #[.agg #[.bool s, .slice a (nd d) c, .int .i64 e]] w fun en w' => en = .returned (.bool (decide (1100 < (bl d : Int) + e) || decide ((bl d : Int) + e < -1200))) ∧ Below w.heap.size w w' := by
  have hbl : bl d ≤ 32 * nd d := bl_le (by rw [← BB_pow]; exact lt_nd d)
  have H : Hd (∀ (o : Obj) n, Dgs ((w.alloc o).drewN n) a d) := ⟨fun o n => (h.below ((Below.refl _ _).alloc (Nat.le_refl _) _)).drewN n⟩
  have hLe : Hd (∀ w, Dgs w a d → Calls Try.prog 118 #[.slice a (nd d) c] w fun en w' => en = .returned (.int .i64 (bl d)) ∧ w' = w) := ⟨fun w h => (len_any a d c w h (by omega)).mono fun _ _ h => ⟨h.1, h.2.symm⟩⟩
  have hB2 : bl d ≤ 320000000 := by omega
  clear h hbl
  generalize bl d = B at *
  generalize nd d = N at *
  by_cases h1 : 1100 < (B : Int) + e
  · have d1 : decide (1100 < (B : Int) + e) = true := by simp; exact h1
    rw [d1, Bool.true_or]
    clear h1
    go_enter Try.func134, Try.ntmps134
    go_wp2_with fail
    go_quiet ((go_at_call 118; exact Calls.quiet_of_same (hLe.out _ (H.out _ _))))
    go_wp2_with fail
    go_ret
    exact ⟨rfl, below_drewN ((Below.refl _ _).alloc (Nat.le_refl _) _) _⟩
  · have d1 : decide (1100 < (B : Int) + e) = false := by simp; omega
    rw [d1, Bool.false_or]
    clear h1
    go_enter Try.func134, Try.ntmps134
    go_wp2_with fail
    go_quiet ((go_at_call 118; exact Calls.quiet_of_same (hLe.out _ (H.out _ _))))
    go_wp2_with fail
    go_ret
    exact ⟨rfl, below_drewN ((Below.refl _ _).alloc (Nat.le_refl _) _) _⟩

/-- The word nearest to a real and a little more, if more. -/
def nearM (s : Bool) (d : Nat) (e : Int) (more : Bool) : Nat := if d = 0 then 0 else madeN s (rnd d e more)

theorem rnd_big {d : Nat} {e : Int} {more : Bool} (h : 1100 < (bl d : Int) + e) : 9218868437227405312 ≤ rnd d e more := by
  have hL : 1048 ≤ lsb d e := by unfold lsb; omega
  have h2 : 2122 ≤ (lsb d e + 1074).toNat := by omega
  have h3 : 2122 * 4503599627370496 ≤ (lsb d e + 1074).toNat * 4503599627370496 := Nat.mul_le_mul_right _ h2
  unfold rnd
  omega
theorem rnd_small {d : Nat} {e : Int} {more : Bool} (h : (bl d : Int) + e < -1200) : rnd d e more = 0 := by
  have hL : lsb d e = -1074 := by unfold lsb; omega
  have hk : ¬ lsb d e ≤ e := by omega
  unfold rnd
  rw [if_neg hk, hL]
  have h1 := bl_lt d
  have h2 : 2 ^ bl d ≤ 2 ^ ((-1074 - e).toNat - 1) := Nat.pow_le_pow_right (by decide) (by omega)
  have h3 : 2 ^ ((-1074 - e).toNat - 1) ≤ 2 ^ (-1074 - e).toNat := Nat.pow_le_pow_right (by decide) (by omega)
  unfold rh
  rw [Nat.div_eq_of_lt (by omega : d < 2 ^ (-1074 - e).toNat), Nat.div_eq_of_lt (by omega : d < 2 ^ ((-1074 - e).toNat - 1)), if_neg (by omega)]
  rfl
theorem madeN_big {s : Bool} {u : Nat} (h : 9218868437227405312 ≤ u) : madeN s u = madeN s 9218868437227405312 := by
  unfold madeN; rw [Nat.min_eq_right h, Nat.min_eq_right (Nat.le_refl _)]

theorem rnd_lt {d : Nat} {e : Int} {more : Bool} (h0 : d ≠ 0) (h : (bl d : Int) + e ≤ 1100) : rnd d e more < 18446744073709551616 := by
  have hL : lsb d e ≤ 1047 := by unfold lsb; omega
  have hL2 : -1074 ≤ lsb d e := by unfold lsb; omega
  have h2 : (lsb d e + 1074).toNat * 4503599627370496 ≤ 2121 * 4503599627370496 := Nat.mul_le_mul_right _ (by omega)
  unfold rnd
  split
  · rename_i hc
    have := lsb_up d e h0 hc
    omega
  · have h4 := lsb_down d e
    unfold rh
    split <;> omega

set_option maxHeartbeats 16000000 in
set_option maxRecDepth 100000 in
theorem nearMore_any (s : Bool) (a : Option Addr) (d c : Nat) (e : Int) (more : Bool) (w : World) (h : Dgs w a d) (hs : nd d ≤ 1000000) (he : -1000000000 ≤ e ∧ e ≤ 1000000000) :
    Calls Try.prog 117 #[.agg #[.bool s, .slice a (nd d) c, .int .i64 e], .bool more] w (URet (nearM s d e more) w) := by
  have H := Hd.mk h
  by_cases h0 : d = 0
  · have HZ := Hd.mk (zero_t s a d c e (by omega) h0)
    have HR : Hd (0 = nearM s d e more) := ⟨by unfold nearM; rw [if_pos h0]⟩
    generalize nearM s d e more = R at *
    clear h h0 he hs
    generalize nd d = N at *
    go_enter Try.func117, Try.ntmps117
    go_wp2_with fail
    refine (HZ.out _).mono ?_; rintro en w1 ⟨rfl, hb⟩
    have B1 : Hd (Below w.heap.size w w1) := ⟨((Below.refl _ _).alloc (Nat.le_refl _) _).trans (hb.mono (by simp))⟩
    have hk := cellb hb w.heap.size (by simp)
    clear hb
    go_wp2_with fail
    go_ret
    exact ⟨ret_int (by have := HR.out; omega), B1.out⟩
  · have HZ := Hd.mk (zero_f s a d c e (by omega) h0)
    have HF := Hd.mk fun w h => far_any s a d c e w h (by omega) he
    have hbl : bl d ≤ 32 * nd d := bl_le (by rw [← BB_pow]; exact lt_nd d)
    have hLe : Hd (∀ w, Dgs w a d → Calls Try.prog 118 #[.slice a (nd d) c] w fun en w' => en = .returned (.int .i64 (bl d)) ∧ w' = w) := ⟨fun w h => (len_any a d c w h (by omega)).mono fun _ _ h => ⟨h.1, h.2.symm⟩⟩
    have hB2 : bl d ≤ 32000000 := by omega
    rcases (by omega : 1100 < (bl d : Int) + e ∨ (bl d : Int) + e < -1200 ∨ (-1200 ≤ (bl d : Int) + e ∧ (bl d : Int) + e ≤ 1100)) with h1 | h1 | h1
    · have HR : Hd (madeN s 9218868437227405312 = nearM s d e more) := ⟨by unfold nearM; rw [if_neg h0, madeN_big (rnd_big h1)]⟩
      rw [show (decide (1100 < (bl d : Int) + e) || decide ((bl d : Int) + e < -1200)) = true by simp; omega] at HF
      have HM := Hd.mk (made_any s 9218868437227405312 (by decide))
      generalize nearM s d e more = R at *
      clear h h0 hbl
      generalize bl d = B at *
      generalize nd d = N at *
      rcases Decidable.em (0 < e) with h2 | h2
      · have d1 : decide (0 < e) = true := by simp; exact h2
        go_enter Try.func117, Try.ntmps117
        go_wp2_with fail
        refine (HZ.out _).mono ?_; rintro en w1 ⟨rfl, hb⟩
        have B1 : Hd (Below w.heap.size w w1) := ⟨((Below.refl _ _).alloc (Nat.le_refl _) _).trans (hb.mono (by simp))⟩
        have hk := cellb hb w.heap.size (by simp)
        have hz := hb.size
        simp at hz
        clear hb
        go_wp2_with fail
        refine (HF.out _ (H.out.below B1.out)).mono ?_; rintro en w2 ⟨rfl, hb⟩
        have B2 : Hd (Below w.heap.size w w2) := ⟨B1.out.trans (hb.mono B1.out.size)⟩
        have hk2 := cellb hb w.heap.size (by omega)
        clear hb
        go_wp2_with fail
        go_quiet (fail)
        go_wp2_with fail
        refine (HM.out _).mono ?_; rintro en w3 ⟨rfl, rfl⟩
        go_wp2_with fail
        go_ret
        exact ⟨ret_int (by rw [HR.out]), below_drewN B2.out _⟩
      · have d1 : decide (0 < e) = false := by simp; omega
        have d2 : decide (0 < (B : Int) + e) = true := by simp; omega
        go_enter Try.func117, Try.ntmps117
        go_wp2_with fail
        refine (HZ.out _).mono ?_; rintro en w1 ⟨rfl, hb⟩
        have B1 : Hd (Below w.heap.size w w1) := ⟨((Below.refl _ _).alloc (Nat.le_refl _) _).trans (hb.mono (by simp))⟩
        have hk := cellb hb w.heap.size (by simp)
        have hz := hb.size
        simp at hz
        clear hb
        go_wp2_with fail
        refine (HF.out _ (H.out.below B1.out)).mono ?_; rintro en w2 ⟨rfl, hb⟩
        have B2 : Hd (Below w.heap.size w w2) := ⟨B1.out.trans (hb.mono B1.out.size)⟩
        have hk2 := cellb hb w.heap.size (by omega)
        clear hb
        have HQ : Hd (∀ n, Dgs (w2.drewN n) a d) := ⟨fun n => (H.out.below B2.out).drewN n⟩
        go_wp2_with fail
        go_quiet ((go_at_call 118; exact Calls.quiet_of_same (hLe.out _ (HQ.out _))))
        go_wp2_with fail
        refine (HM.out _).mono ?_; rintro en w3 ⟨rfl, rfl⟩
        go_wp2_with fail
        go_ret
        exact ⟨ret_int (by rw [HR.out]), below_drewN B2.out _⟩
    · have HR : Hd (madeN s 0 = nearM s d e more) := ⟨by unfold nearM; rw [if_neg h0, rnd_small h1]⟩
      rw [show (decide (1100 < (bl d : Int) + e) || decide ((bl d : Int) + e < -1200)) = true by simp; omega] at HF
      have HM := Hd.mk (made_any s 0 (by decide))
      generalize nearM s d e more = R at *
      clear h h0 hbl
      generalize bl d = B at *
      generalize nd d = N at *
      have d1 : decide (0 < e) = false := by simp; omega
      have d2 : decide (0 < (B : Int) + e) = false := by simp; omega
      go_enter Try.func117, Try.ntmps117
      go_wp2_with fail
      refine (HZ.out _).mono ?_; rintro en w1 ⟨rfl, hb⟩
      have B1 : Hd (Below w.heap.size w w1) := ⟨((Below.refl _ _).alloc (Nat.le_refl _) _).trans (hb.mono (by simp))⟩
      have hk := cellb hb w.heap.size (by simp)
      have hz := hb.size
      simp at hz
      clear hb
      go_wp2_with fail
      refine (HF.out _ (H.out.below B1.out)).mono ?_; rintro en w2 ⟨rfl, hb⟩
      have B2 : Hd (Below w.heap.size w w2) := ⟨B1.out.trans (hb.mono B1.out.size)⟩
      have hk2 := cellb hb w.heap.size (by omega)
      clear hb
      have HQ : Hd (∀ n, Dgs (w2.drewN n) a d) := ⟨fun n => (H.out.below B2.out).drewN n⟩
      go_wp2_with fail
      go_quiet ((go_at_call 118; exact Calls.quiet_of_same (hLe.out _ (HQ.out _))))
      go_wp2_with fail
      refine (HM.out _).mono ?_; rintro en w3 ⟨rfl, rfl⟩
      go_wp2_with fail
      go_ret
      exact ⟨ret_int (by rw [HR.out]), below_drewN B2.out _⟩
    · have HR : Hd (madeN s (rnd d e more) = nearM s d e more) := ⟨by unfold nearM; rw [if_neg h0]⟩
      rw [show (decide (1100 < (bl d : Int) + e) || decide ((bl d : Int) + e < -1200)) = false by simp; omega] at HF
      have HM := Hd.mk (made_any s (rnd d e more) (rnd_lt h0 h1.2))
      have HRd := Hd.mk fun w h => rounded_any a d c e more w h hs h0 h1.2 h1.1
      generalize nearM s d e more = R at *
      generalize rnd d e more = U at *
      clear h h0 hbl
      generalize bl d = B at *
      generalize nd d = N at *
      go_enter Try.func117, Try.ntmps117
      go_wp2_with fail
      refine (HZ.out _).mono ?_; rintro en w1 ⟨rfl, hb⟩
      have B1 : Hd (Below w.heap.size w w1) := ⟨((Below.refl _ _).alloc (Nat.le_refl _) _).trans (hb.mono (by simp))⟩
      have hk := cellb hb w.heap.size (by simp)
      have hz := hb.size
      simp at hz
      clear hb
      go_wp2_with fail
      refine (HF.out _ (H.out.below B1.out)).mono ?_; rintro en w2 ⟨rfl, hb⟩
      have B2 : Hd (Below w.heap.size w w2) := ⟨B1.out.trans (hb.mono B1.out.size)⟩
      have hk2 := cellb hb w.heap.size (by omega)
      have hz2 := hb.size
      clear hb
      go_wp2_with fail
      have c0 : w2.cell? ⟨w.heap.size, 0, none⟩ = some (.bool s) := by go_simp
      have c1 : w2.cell? ⟨w.heap.size, 1, none⟩ = some (.slice a N c) := by go_simp
      have c2 : w2.cell? ⟨w.heap.size, 2, none⟩ = some (.int .i64 e) := by go_simp
      have HSZ : Hd (w.heap.size < w2.heap.size) := ⟨by omega⟩
      have HQ : Hd (Dgs w2.drew a d) := ⟨(H.out.below B2.out).keep fun _ _ _ h => h⟩
      clear hk hk2 hz hz2
      go_region_held3 (fun w' => w'.cell? ⟨w.heap.size, 0, none⟩ = some (.bool s) ∧ w'.cell? ⟨w.heap.size, 1, none⟩ = some (.slice a N c) ∧ w'.cell? ⟨w.heap.size, 2, none⟩ = some (.int .i64 e)) (first | exact ⟨c0, c1, c2⟩ | exact ⟨d0, d1, d2⟩) (first | (go_at_call 135; refine (HM.out _).mono ?_; rintro en w4 ⟨rfl, rfl⟩) | (
        go_at_call 136
        refine (HRd.out _ HQ.out).mono ?_
        rintro en w3 ⟨rfl, hb⟩
        have k0 := cellb hb w.heap.size (by have := HSZ.out; show w.heap.size < w2.heap.size; exact this)
        have d0 := (k0.1 _).trans c0
        have d1 := (k0.1 _).trans c1
        have d2 := (k0.1 _).trans c2
        have B3 := Hd.mk (B2.out.drew.trans (hb.mono B2.out.size))
        clear hb k0))
      go_wp2_with fail
      go_ret
      exact ⟨ret_int (by rw [HR.out]), B3.out⟩

theorem near_any (s : Bool) (a : Option Addr) (d c : Nat) (e : Int) (w : World) (h : Dgs w a d) (hs : nd d ≤ 1000000) (he : -1000000000 ≤ e ∧ e ≤ 1000000000) :
    Calls Try.prog 77 #[.agg #[.bool s, .slice a (nd d) c, .int .i64 e]] w (URet (nearM s d e false) w) := by
  have H := Hd.mk h
  have HN := Hd.mk fun w h => nearMore_any s a d c e false w h hs he
  generalize nearM s d e false = R at *
  clear h hs he
  generalize nd d = N at *
  go_enter Try.func77, Try.ntmps77
  go_wp2_with fail
  have ba : Below w.heap.size w (w.alloc (.cells #[.bool s, .slice a N c, .int .i64 e] 35)) := (Below.refl _ _).alloc (Nat.le_refl _) _
  refine (HN.out _ (H.out.below ba)).mono ?_; rintro en w1 ⟨rfl, hb⟩
  have B1 : Hd (Below w.heap.size w w1) := ⟨ba.trans (hb.mono (by simp))⟩
  clear hb ba
  go_wp2_with fail
  go_ret
  exact ⟨rfl, B1.out⟩

end Go.Proofs.Yteikihidblcljaa

/- The walk of the reference's NearOver. -/
namespace Go.Proofs.Yteikihidblcljaa
open Go.RowKit
set_option linter.unusedSimpArgs false
set_option linter.unusedVariables false

/-- How many digits more a quotient asks for. -/
def ovK (d d' : Nat) : Nat := 70 + bl d' - bl d
/-- The word nearest to a quotient of reals. -/
def overN (s : Bool) (d : Nat) (e : Int) (d' : Nat) (e' : Int) : Nat :=
  if d = 0 then 0 else nearM s (d * 2 ^ ovK d d' / d') (e - ovK d d' - e') (nz (d * 2 ^ ovK d d' % d'))

/-- Two boxes with reals. -/
structure P2 (w : World) (b : Nat) (s : Bool) (a : Option Addr) (N c : Nat) (e : Int) (s' : Bool) (a' : Option Addr) (N' c' : Nat) (e' : Int) : Prop where
  c0 : w.cell? ⟨b, 0, none⟩ = some (.bool s)
  c1 : w.cell? ⟨b, 1, none⟩ = some (.slice a N c)
  c2 : w.cell? ⟨b, 2, none⟩ = some (.int .i64 e)
  c3 : w.cell? ⟨b + 1, 0, none⟩ = some (.bool s')
  c4 : w.cell? ⟨b + 1, 1, none⟩ = some (.slice a' N' c')
  c5 : w.cell? ⟨b + 1, 2, none⟩ = some (.int .i64 e')
  sz : b + 1 < w.heap.size

theorem P2.below {w w' : World} {b : Nat} {s : Bool} {a : Option Addr} {N c : Nat} {e : Int} {s' : Bool} {a' : Option Addr} {N' c' : Nat} {e' : Int} (h : P2 w b s a N c e s' a' N' c' e') (hb : Below w.heap.size w w') : P2 w' b s a N c e s' a' N' c' e' := by
  have hs := h.sz
  have k0 := cellb hb b (by omega)
  have k1 := cellb hb (b + 1) (by omega)
  exact ⟨(k0.1 _).trans h.c0, (k0.1 _).trans h.c1, (k0.1 _).trans h.c2, (k1.1 _).trans h.c3, (k1.1 _).trans h.c4, (k1.1 _).trans h.c5, Nat.lt_of_lt_of_le h.sz hb.size⟩
theorem P2.drewN {w : World} {b : Nat} {s : Bool} {a : Option Addr} {N c : Nat} {e : Int} {s' : Bool} {a' : Option Addr} {N' c' : Nat} {e' : Int} (h : P2 w b s a N c e s' a' N' c' e') (k : Nat) : P2 (w.drewN k) b s a N c e s' a' N' c' e' :=
  ⟨h.c0, h.c1, h.c2, h.c3, h.c4, h.c5, h.sz⟩
theorem P2.drew {w : World} {b : Nat} {s : Bool} {a : Option Addr} {N c : Nat} {e : Int} {s' : Bool} {a' : Option Addr} {N' c' : Nat} {e' : Int} (h : P2 w b s a N c e s' a' N' c' e') : P2 w.drew b s a N c e s' a' N' c' e' :=
  ⟨h.c0, h.c1, h.c2, h.c3, h.c4, h.c5, h.sz⟩
theorem below_2 (w : World) (o1 o2 : Obj) : Below w.heap.size w ((w.alloc o1).alloc o2) :=
  ((Below.refl _ _).alloc (Nat.le_refl _) _).alloc (by simp) _


set_option maxHeartbeats 16000000 in
set_option maxRecDepth 100000 in
theorem nearOver_any (s : Bool) (a : Option Addr) (d c : Nat) (e : Int) (s' : Bool) (a' : Option Addr) (d' c' : Nat) (e' : Int) (w : World) (h : Dgs w a d) (h' : Dgs w a' d') (hs : nd d ≤ 100000) (hs' : nd d' ≤ 100000) (h1 : d' ≠ 0) (he : -1000000 ≤ e ∧ e ≤ 1000000) (he' : -1000000 ≤ e' ∧ e' ≤ 1000000) :
    Calls Try.prog 78 #[.agg #[.bool s, .slice a (nd d) c, .int .i64 e], .agg #[.bool s', .slice a' (nd d') c', .int .i64 e']] w
      (URet (overN s d e d' e') w) := by
  have H := Hd.mk h
  have H' := Hd.mk h'
  by_cases h0 : d = 0
  · have HZ := Hd.mk (zero_t s a d c e (by omega) h0)
    have HR : Hd (0 = overN s d e d' e') := ⟨by unfold overN; rw [if_pos h0]⟩
    generalize overN s d e d' e' = R at *
    clear h h' h0 he he' hs hs' h1
    generalize nd d = N at *
    generalize nd d' = N' at *
    go_enter Try.func78, Try.ntmps78
    go_wp2_with fail
    refine (HZ.out _).mono ?_; rintro en w1 ⟨rfl, hb⟩
    have B1 : Hd (Below w.heap.size w w1) := ⟨(below_2 w _ _).trans (hb.mono (by simp; omega))⟩
    clear hb
    go_wp2_with fail
    go_ret
    exact ⟨ret_int (by have := HR.out; omega), B1.out⟩
  · have HZ := Hd.mk (zero_f s a d c e (by omega) h0)
    have hbl : bl d ≤ 32 * nd d := bl_le (by rw [← BB_pow]; exact lt_nd d)
    have hbl' : bl d' ≤ 32 * nd d' := bl_le (by rw [← BB_pow]; exact lt_nd d')
    have hB : bl d ≤ 3200000 := by omega
    have hB' : bl d' ≤ 3200000 := by omega
    have hLe : Hd (∀ w, Dgs w a d → Calls Try.prog 118 #[.slice a (nd d) c] w fun en w' => en = .returned (.int .i64 (bl d)) ∧ w' = w) := ⟨fun w h => (len_any a d c w h (by omega)).mono fun _ _ h => ⟨h.1, h.2.symm⟩⟩
    have hLe' : Hd (∀ w, Dgs w a' d' → Calls Try.prog 118 #[.slice a' (nd d') c'] w fun en w' => en = .returned (.int .i64 (bl d')) ∧ w' = w) := ⟨fun w h => (len_any a' d' c' w h (by omega)).mono fun _ _ h => ⟨h.1, h.2.symm⟩⟩
    obtain ⟨k, hk⟩ : ∃ k, ovK d d' = k := ⟨_, rfl⟩
    have hmx : max (0 : Int) (70 - bl d + bl d') = (k : Int) := by rw [← hk]; unfold ovK; omega
    have hk2 : k ≤ 3200070 := by rw [← hk]; unfold ovK; omega
    have HS : Hd (∀ w, Dgs w a d → Calls Try.prog 120 #[.slice a (nd d) c, .int .i64 k] w (DRet (d * 2 ^ k) w)) := ⟨fun w h => shiftUp_any a d c k w h (by omega) (by omega)⟩
    have nX : nd (d * 2 ^ k) ≤ 300000 := nd_shift _ _ _ (by omega)
    have HV : Hd (∀ w a1 c1, Dgs w a1 (d * 2 ^ k) → Dgs w a' d' → Calls Try.prog 119 #[.slice a1 (nd (d * 2 ^ k)) c1, .slice a' (nd d') c'] w (D22Ret (d * 2 ^ k / d') (d * 2 ^ k % d') w)) := ⟨fun w a1 c1 h h' => divDigits_any a1 _ c1 a' d' c' w h h' (by omega) (by omega) h1⟩
    have HR : Hd (nearM s (d * 2 ^ k / d') (e - k - e') (nz (d * 2 ^ k % d')) = overN s d e d' e') := ⟨by unfold overN; rw [if_neg h0, hk]⟩
    have nQ : nd (d * 2 ^ k / d') ≤ 300000 := Nat.le_trans (nd_mono (Nat.div_le_self _ _)) nX
    generalize d * 2 ^ k / d' = Q at *
    generalize d * 2 ^ k % d' = M at *
    generalize d * 2 ^ k = X at *
    have HN : Hd (∀ w a1 c1, Dgs w a1 Q → Calls Try.prog 117 #[.agg #[.bool s, .slice a1 (nd Q) c1, .int .i64 (e - k - e')], .bool (decide (0 < nd M))] w (URet (nearM s Q (e - k - e') (nz M)) w)) := ⟨fun w a1 c1 h => by
      have e1 : decide (0 < nd M) = nz M := by
        by_cases h0 : M = 0
        · subst h0; rfl
        · rw [nz_t h0]; have := nd_pos h0; simp; omega
      rw [e1]
      exact nearMore_any s a1 Q c1 (e - k - e') (nz M) w h (by omega) (by omega)⟩
    generalize nearM s Q (e - k - e') (nz M) = R at *
    generalize overN s d e d' e' = R2 at *
    clear h h' h0 h1 hk hbl hbl' hs hs'
    generalize nd d = N at *
    generalize nd d' = N' at *
    generalize bl d = B at *
    generalize bl d' = B' at *
    go_enter Try.func78, Try.ntmps78
    go_wp2_with fail
    refine (HZ.out _).mono ?_; rintro en w1 ⟨rfl, hb⟩
    have B1 : Hd (Below w.heap.size w w1) := ⟨(below_2 w _ _).trans (hb.mono (by simp; omega))⟩
    have P1 : Hd (P2 w1 w.heap.size s a N c e s' a' N' c' e') := ⟨P2.below ⟨by go_simp, by go_simp, by go_simp, by go_simp, by go_simp, by go_simp, by simp⟩ hb⟩
    clear hb
    have c0 := P1.out.c0; have c1 := P1.out.c1; have c2 := P1.out.c2; have c3 := P1.out.c3; have c4 := P1.out.c4; have c5 := P1.out.c5
    have Q1 : Hd (∀ n, Dgs (w1.drewN n) a d) := ⟨fun n => (H.out.below B1.out).drewN n⟩
    have Q2 : Hd (∀ n, Dgs (w1.drewN n) a' d') := ⟨fun n => (H'.out.below B1.out).drewN n⟩
    go_wp2_with fail
    go_quiet ((first | (go_at_call_of 118 a; exact Calls.quiet_of_same (hLe.out _ (Q1.out _))) | (go_at_call_of 118 a'; exact Calls.quiet_of_same (hLe'.out _ (Q2.out _)))))
    go_wp2_with fail
    have P2' := Hd.mk (P1.out.drewN nq)
    have V1 : Hd (Dgs (w1.drewN nq).drew a d) := ⟨(Q1.out nq).keep fun _ _ _ h => h⟩
    have V2 : Hd (Dgs (w1.drewN nq).drew a' d') := ⟨(Q2.out nq).keep fun _ _ _ h => h⟩
    have B2 := Hd.mk (below_drewN B1.out nq).drew
    generalize hw2 : w1.drewN nq = w2 at *
    clear hw2
    go_region_held3 (fun w' => w'.cell? ⟨w.heap.size, 1, none⟩ = some (.slice a N c) ∧ w'.cell? ⟨w.heap.size + 1, 1, none⟩ = some (.slice a' N' c')) (first | exact ⟨P2'.out.c1, P2'.out.c4⟩ | exact ⟨P4.out.c1, P4.out.c4⟩ | exact ⟨P3.out.c1, P3.out.c4⟩) (first | (go_at_call_of 119 a'; refine (HV.out _ _ _ U1.out U2.out).mono ?_; rintro en w4 ⟨a4, k4, a5, k5, rfl, hc4, hc5, hd4, hd5, hb, hf4, hf5⟩; have P4 := Hd.mk (P3.out.below hb); have B4 := Hd.mk (B3.out.trans (hb.mono B3.out.size)); have D4 := Hd.mk hd4; clear hc4 hc5 hd4 hd5 hb hf4 hf5) | (go_at_call_of 120 a; refine (HS.out _ V1.out).mono ?_; rintro en w3 ⟨a3, k3, rfl, hc3, hd3, hb, hf3⟩; have P3 := Hd.mk (P2'.out.drew.below hb); have B3 := Hd.mk (B2.out.trans (hb.mono B2.out.size)); have U1 := Hd.mk hd3; have U2 := Hd.mk (V2.out.below hb); clear hc3 hd3 hb hf3))
    clear c0 c1 c2 c3 c4 c5
    have c0 := P4.out.c0; have c1 := P4.out.c1; have c2 := P4.out.c2; have c3 := P4.out.c3; have c4 := P4.out.c4; have c5 := P4.out.c5
    go_wp2_with fail
    refine (HN.out _ _ _ D4.out).mono ?_
    rintro en w5 ⟨rfl, hb⟩
    have B5 := Hd.mk (B4.out.trans (hb.mono B4.out.size))
    clear hb
    go_wp2_with fail
    go_ret
    exact ⟨ret_int (by rw [HR.out]), B5.out⟩

end Go.Proofs.Yteikihidblcljaa

/- The walks of the reference's IsInf, Flip, Add. -/
namespace Go.Proofs.Yteikihidblcljaa
open Go.RowKit
set_option linter.unusedSimpArgs false
set_option linter.unusedVariables false

/-- Is it an infinity? -/
def inf (x : Nat) : Bool := mg x == 9218868437227405312
/-- The other sign. -/
def flip64 (x : Nat) : Nat := if ng x then mg x else mg x + 9223372036854775808

theorem rIsInf_any (x : Nat) (hx : F64 x) (w : World) :
    Calls Try.prog 57 #[.int .u64 x] w fun e w' => e = .returned (.bool (inf x)) ∧ w = w' := by
  have hb := bits_mg x hx
  have H : Hd (((mg x : Int) == 9218868437227405312) = inf x) := ⟨by unfold inf; rw [Bool.eq_iff_iff, beq_iff_eq, beq_iff_eq]; omega⟩
  generalize mg x = m at *
  by_cases h : (m : Int) = 9218868437227405312
  · have d : ((m : Int) == 9218868437227405312) = true := by rw [beq_iff_eq]; exact h
    rw [← H.out, d]
    clear H h
    go_enter Try.func57, Try.ntmps57
    go_wp2
    go_ret
    exact ⟨rfl, rfl⟩
  · have d : ((m : Int) == 9218868437227405312) = false := by rw [beq_eq_false_iff_ne]; exact h
    rw [← H.out, d]
    clear H h
    go_enter Try.func57, Try.ntmps57
    go_wp2
    go_ret
    exact ⟨rfl, rfl⟩

theorem xor_low (x : Nat) (h : x < 9223372036854775808) : x ^^^ 9223372036854775808 = x + 9223372036854775808 := by
  have h1 := nat_add_bits x x 9223372036854775808 (Nat.le_refl _)
  have h2 : x &&& 9223372036854775808 = 0 := by
    refine Nat.eq_of_testBit_eq fun i => ?_
    rw [Nat.testBit_and, Nat.zero_testBit, show (9223372036854775808 : Nat) = 2 ^ 63 by decide, Nat.testBit_two_pow]
    by_cases hi : 63 = i
    · subst hi
      rw [Nat.testBit_lt_two_pow (by rw [show (2 : Nat) ^ 63 = 9223372036854775808 by decide]; exact h)]; rfl
    · simp [hi]
  omega
theorem xor_sign (x : Nat) (hx : F64 x) : bits .xor .u64 (x : Int) 9223372036854775808 = ((flip64 x : Nat) : Int) := by
  have := u64_xor_nat x 9223372036854775808 hx.out (by decide)
  rw [show ((9223372036854775808 : Nat) : Int) = 9223372036854775808 from rfl] at this
  rw [this]
  congr 1
  have hx := hx.out
  unfold flip64 ng mg
  by_cases h : 9223372036854775808 ≤ x
  · rw [if_pos (by simp; exact h)]
    have h2 := xor_low (x - 9223372036854775808) (by omega)
    rw [show x - 9223372036854775808 + 9223372036854775808 = x by omega] at h2
    have h3 : x ^^^ 9223372036854775808 = x - 9223372036854775808 := by
      conv => lhs; rw [← h2]
      rw [Nat.xor_assoc, Nat.xor_self, Nat.xor_zero]
    rw [h3]; omega
  · rw [if_neg (by simp; omega), xor_low x (by omega)]
    omega
theorem F64_flip (x : Nat) : F64 (flip64 x) := by
  refine ⟨?_⟩
  have := mg_lt x
  unfold flip64; split <;> omega
theorem mg_flip (x : Nat) : mg (flip64 x) = mg x := by
  have := mg_lt x
  have e : ∀ y, mg y = y % 9223372036854775808 := fun y => by unfold mg; rfl
  unfold flip64; split
  · rw [e (mg x)]; exact Nat.mod_eq_of_lt this
  · rw [e (mg x + _)]
    omega
theorem ng_flip (x : Nat) : ng (flip64 x) = !ng x := by
  have := mg_lt x
  unfold flip64; split
  · rename_i h; rw [h]; unfold ng; simp; omega
  · rename_i h; rw [show ng x = false by simpa using h]; unfold ng; simp

theorem rFlip_any (x : Nat) (hx : F64 x) (w : World) :
    Calls Try.prog 76 #[.int .u64 x] w fun e w' => e = .returned (.int .u64 (flip64 x)) ∧ w = w' := by
  have hb := xor_sign x hx
  generalize flip64 x = m at *
  go_enter Try.func76, Try.ntmps76
  go_wp2
  go_ret
  exact ⟨rfl, rfl⟩

end Go.Proofs.Yteikihidblcljaa

/- Plain: a float's sum, product, quotient, told by whole numbers. No program. -/
namespace Go.Proofs.Yteikihidblcljaa
set_option linter.unusedSimpArgs false

theorem read_fin (u : Nat) (h : F64 u) (hf : fin u = true) : dbl.read u = .number (ng u) (mnt u) (exq u) := by
  rw [read_eq u h]
  unfold mnt exq
  have : mg u < INF := by unfold fin at hf; simpa using hf
  by_cases h1 : mg u < 4503599627370496
  · rw [if_pos h1, if_pos h1, if_pos h1]
  · rw [if_neg h1, if_neg h1, if_neg h1, if_pos this]

theorem nearM_nearest {s : Bool} {d : Nat} {e : Int} (h : d ≠ 0) : nearM s d e false = dbl.nearest s d e := by
  unfold nearM; rw [if_neg h, madeN_word, nearest_rnd s d e h]

theorem nearest_scale (s : Bool) (d k : Nat) (e : Int) (h : d ≠ 0) : dbl.nearest s (d * 2 ^ k) (e - k) = dbl.nearest s d e := by
  have h2 : d * 2 ^ k ≠ 0 := Nat.mul_ne_zero h (by have := Nat.pow_pos (n := k) (show 0 < 2 by decide); omega)
  rw [nearest_rnd s _ _ h2, nearest_rnd s _ _ h, rnd_scale d k e h]

theorem exq_bd (u : Nat) (hf : fin u = true) : -1074 ≤ exq u ∧ exq u ≤ 971 := by
  have : mg u < INF := by unfold fin at hf; simpa using hf
  unfold INF at this
  unfold exq; split <;> omega
theorem mnt_lt (u : Nat) : mnt u < 9007199254740992 := by
  unfold mnt; split <;> omega
theorem mnt_zero (u : Nat) : mnt u = 0 ↔ mg u = 0 := by
  unfold mnt; split <;> omega
theorem exq_zero (u : Nat) (h : mnt u = 0) : exq u = -1074 := by
  rw [mnt_zero] at h
  unfold exq; rw [if_pos (by omega)]

def sg (s : Bool) (A : Nat) : Int := if s then -(A : Int) else A
theorem signed_sg (s : Bool) (m k : Nat) : Ieee.signed s m k = sg s (m * 2 ^ k) := by
  unfold Ieee.signed sg
  rw [Nat.shiftLeft_eq]

theorem sg_t (A : Nat) : sg true A = -(A : Int) := rfl
theorem sg_f (A : Nat) : sg false A = A := rfl

/-- What is added by digits is the sum. -/
theorem sum_sg (s : Bool) (A : Nat) (s' : Bool) (B : Nat) : (sg s A + sg s' B).natAbs = sumD s A s' B ∧ (sumD s A s' B ≠ 0 → decide (sg s A + sg s' B < 0) = sumS s A s' B) := by
  by_cases hP : s = s' ∨ A = 0 ∨ B = 0
  · have e1 : sumD s A s' B = A + B := by unfold sumD; rw [if_pos hP]
    have e2 : sumS s A s' B = ((if A = 0 then s' else s) && !(A + B == 0)) := by unfold sumS; rw [if_pos hP]
    rw [e1, e2]
    have e3 : A + B ≠ 0 → ((if A = 0 then s' else s) && !(A + B == 0)) = (if A = 0 then s' else s) := fun h => by
      rw [show (A + B == 0) = false by rw [beq_eq_false_iff_ne]; exact h]; simp
    by_cases h1 : A = 0
    · subst h1
      refine ⟨?_, fun h => ?_⟩
      · cases s <;> cases s' <;> simp only [sg_t, sg_f] <;> omega
      · rw [e3 h, if_pos rfl]
        cases s <;> cases s' <;> simp only [sg_t, sg_f] <;> first | exact decide_eq_true (by omega) | exact decide_eq_false (by omega)
    · by_cases h2 : B = 0
      · subst h2
        refine ⟨?_, fun h => ?_⟩
        · cases s <;> cases s' <;> simp only [sg_t, sg_f] <;> omega
        · rw [e3 h, if_neg h1]
          cases s <;> cases s' <;> simp only [sg_t, sg_f] <;> first | exact decide_eq_true (by omega) | exact decide_eq_false (by omega)
      · have h3 : s = s' := by rcases hP with h | h | h <;> first | exact h | exact absurd h h1 | exact absurd h h2
        subst h3
        refine ⟨?_, fun h => ?_⟩
        · cases s <;> simp only [sg_t, sg_f] <;> omega
        · rw [e3 h, if_neg h1]
          cases s <;> simp only [sg_t, sg_f] <;> first | exact decide_eq_true (by omega) | exact decide_eq_false (by omega)
  · have h3 : s ≠ s' := fun h => hP (.inl h)
    have e1 : sumD s A s' B = if A = B then 0 else if B < A then A - B else B - A := by unfold sumD; rw [if_neg hP]
    have e2 : sumS s A s' B = if A = B then false else if B < A then s else s' := by unfold sumS; rw [if_neg hP]
    rw [e1, e2]
    rcases Nat.lt_trichotomy A B with h4 | h4 | h4
    · rw [if_neg (by omega), if_neg (by omega), if_neg (by omega), if_neg (by omega)]
      refine ⟨?_, fun h => ?_⟩
      · cases s <;> cases s' <;> simp only [sg_t, sg_f] <;> first | exact absurd rfl h3 | omega
      · cases s <;> cases s' <;> simp only [sg_t, sg_f] <;> first | exact absurd rfl h3 | exact decide_eq_true (by omega) | exact decide_eq_false (by omega)
    · rw [if_pos h4, if_pos h4]
      refine ⟨?_, fun h => absurd rfl h⟩
      cases s <;> cases s' <;> simp only [sg_t, sg_f] <;> first | exact absurd rfl h3 | omega
    · rw [if_neg (by omega), if_pos h4, if_neg (by omega), if_pos h4]
      refine ⟨?_, fun h => ?_⟩
      · cases s <;> cases s' <;> simp only [sg_t, sg_f] <;> first | exact absurd rfl h3 | omega
      · cases s <;> cases s' <;> simp only [sg_t, sg_f] <;> first | exact absurd rfl h3 | exact decide_eq_true (by omega) | exact decide_eq_false (by omega)

/-- A sum of numbers. -/
theorem fadd_num (u v : Nat) (hu : F64 u) (hv : F64 v) (fu : fin u = true) (fv : fin v = true) :
    fadd u v = if sumD (ng u) (mnt u * 2 ^ (exq u - min (exq u) (exq v)).toNat) (ng v) (mnt v * 2 ^ (exq v - min (exq u) (exq v)).toNat) = 0 then (if ng u && ng v then 9223372036854775808 else 0)
      else dbl.nearest (sumS (ng u) (mnt u * 2 ^ (exq u - min (exq u) (exq v)).toNat) (ng v) (mnt v * 2 ^ (exq v - min (exq u) (exq v)).toNat)) (sumD (ng u) (mnt u * 2 ^ (exq u - min (exq u) (exq v)).toNat) (ng v) (mnt v * 2 ^ (exq v - min (exq u) (exq v)).toNat)) (min (exq u) (exq v)) := by
  unfold fadd Ieee.Format.add
  rw [read_fin u hu fu, read_fin v hv fv]
  simp only [Ieee.Datum.sum, Option.map_some, Option.getD_some]
  rw [write_num, signed_sg, signed_sg]
  obtain ⟨h1, h2⟩ := sum_sg (ng u) (mnt u * 2 ^ (exq u - min (exq u) (exq v)).toNat) (ng v) (mnt v * 2 ^ (exq v - min (exq u) (exq v)).toNat)
  rw [h1]
  by_cases h : sumD (ng u) (mnt u * 2 ^ (exq u - min (exq u) (exq v)).toNat) (ng v) (mnt v * 2 ^ (exq v - min (exq u) (exq v)).toNat) = 0
  · have h0 : (sg (ng u) (mnt u * 2 ^ (exq u - min (exq u) (exq v)).toNat) + sg (ng v) (mnt v * 2 ^ (exq v - min (exq u) (exq v)).toNat)) = 0 := by omega
    rw [if_pos h, h, if_pos h0, nearest_zero]
  · have h0 : ¬ (sg (ng u) (mnt u * 2 ^ (exq u - min (exq u) (exq v)).toNat) + sg (ng v) (mnt v * 2 ^ (exq v - min (exq u) (exq v)).toNat)) = 0 := by omega
    rw [if_neg h, if_neg h0, h2 h]

end Go.Proofs.Yteikihidblcljaa

/- Plain: sums, products, quotients with infinities and NaNs. No program. -/
namespace Go.Proofs.Yteikihidblcljaa
set_option linter.unusedVariables false

theorem inf_mg {u : Nat} (h : inf u = true) : mg u = INF := by unfold inf at h; unfold INF; simpa using h
theorem read_infb (u : Nat) (h : F64 u) (hi : inf u = true) : dbl.read u = .infinity (ng u) := read_inf u h (inf_mg hi)
theorem word_inf (u : Nat) (h : F64 u) (hi : inf u = true) : dbl.write (.infinity (ng u)) = u := by
  have h1 := inf_mg hi
  have h2 := h.out
  show dbl.word (ng u) dbl.infRung = u
  rw [dbl_inf]
  unfold Ieee.Format.word
  rw [dbl_sw]
  unfold mg INF at h1
  unfold ng
  by_cases h3 : 9223372036854775808 ≤ u
  · rw [decide_eq_true h3, if_pos rfl]; omega
  · rw [decide_eq_false h3, if_neg (by decide)]; omega

theorem ways (u : Nat) : (nn u = true ∧ inf u = false ∧ fin u = false) ∨ (nn u = false ∧ inf u = true ∧ fin u = false) ∨ (nn u = false ∧ inf u = false ∧ fin u = true) := by
  unfold nn inf fin INF
  rcases Nat.lt_trichotomy (mg u) 9218868437227405312 with h | h | h
  · right; right; refine ⟨decide_eq_false (by omega), ?_, decide_eq_true h⟩; rw [beq_eq_false_iff_ne]; omega
  · right; left; refine ⟨decide_eq_false (by omega), ?_, decide_eq_false (by omega)⟩; rw [beq_iff_eq]; exact h
  · left; refine ⟨decide_eq_true h, ?_, decide_eq_false (by omega)⟩; rw [beq_eq_false_iff_ne]; omega

theorem fadd_nl (u v : Nat) (hu : F64 u) (h : nn u = true) : fadd u v = NaNc := by
  obtain ⟨s, t, r⟩ := read_nan u hu h
  unfold fadd Ieee.Format.add; rw [r, sum_nan_l]; rfl
theorem fadd_nr (u v : Nat) (hv : F64 v) (h : nn v = true) : fadd u v = NaNc := by
  obtain ⟨s, t, r⟩ := read_nan v hv h
  unfold fadd Ieee.Format.add; rw [r, sum_nan_r]; rfl
theorem fadd_ii (u v : Nat) (hu : F64 u) (hv : F64 v) (h : inf u = true) (h' : inf v = true) : fadd u v = if u = v then u else NaNc := by
  unfold fadd Ieee.Format.add
  rw [read_infb u hu h, read_infb v hv h']
  have e := word_inf u hu h
  have e' := word_inf v hv h'
  simp only [Ieee.Datum.sum]
  by_cases hs : ng u = ng v
  · rw [if_pos hs]
    have : u = v := by rw [← e, ← e', hs]
    rw [if_pos this]
    simp only [Option.map_some, Option.getD_some]
    exact e
  · rw [if_neg hs, if_neg (fun h => hs (by rw [h]))]
    rfl
theorem fadd_if (u v : Nat) (hu : F64 u) (hv : F64 v) (h : inf u = true) (h' : fin v = true) : fadd u v = u := by
  unfold fadd Ieee.Format.add
  rw [read_infb u hu h, read_fin v hv h']
  simp only [Ieee.Datum.sum, Option.map_some, Option.getD_some]
  exact word_inf u hu h
theorem fadd_fi (u v : Nat) (hu : F64 u) (hv : F64 v) (h : fin u = true) (h' : inf v = true) : fadd u v = v := by
  unfold fadd Ieee.Format.add
  rw [read_infb v hv h', read_fin u hu h]
  simp only [Ieee.Datum.sum, Option.map_some, Option.getD_some]
  exact word_inf v hv h'

/-- The real that stands for a float: its exponent. -/
def exr (u : Nat) : Int := if mnt u = 0 then 0 else exq u
def ngr (u : Nat) : Bool := ng u && !(mnt u == 0)

theorem sumD_l (s s' : Bool) (B : Nat) : sumD s 0 s' B = B := by unfold sumD; rw [if_pos (.inr (.inl rfl)), Nat.zero_add]
theorem sumS_l (s s' : Bool) (B : Nat) (h : B ≠ 0) : sumS s 0 s' B = s' := by
  unfold sumS; rw [if_pos (.inr (.inl rfl)), if_pos rfl, Nat.zero_add, show (B == 0) = false by rw [beq_eq_false_iff_ne]; exact h]; simp
theorem sumE_l (s s' : Bool) (B : Nat) (E : Int) : sumE s 0 s' B E = E := by unfold sumE; rw [if_pos (.inr (.inl rfl))]
theorem sumD_r (s s' : Bool) (A : Nat) : sumD s A s' 0 = A := by unfold sumD; rw [if_pos (.inr (.inr rfl)), Nat.add_zero]
theorem sumS_r (s s' : Bool) (A : Nat) (h : A ≠ 0) : sumS s A s' 0 = s := by
  unfold sumS; rw [if_pos (.inr (.inr rfl)), if_neg h, Nat.add_zero, show (A == 0) = false by rw [beq_eq_false_iff_ne]; exact h]; simp
theorem sumE_r (s s' : Bool) (A : Nat) (E : Int) : sumE s A s' 0 E = E := by unfold sumE; rw [if_pos (.inr (.inr rfl))]
theorem sumE_n (s s' : Bool) (A B : Nat) (E : Int) (h : sumD s A s' B ≠ 0) : sumE s A s' B E = E := by
  unfold sumE; unfold sumD at h
  by_cases hP : s = s' ∨ A = 0 ∨ B = 0
  · rw [if_pos hP]
  · rw [if_neg hP] at h ⊢
    by_cases h2 : A = B
    · rw [if_pos h2] at h; exact absurd rfl h
    · rw [if_neg h2]
theorem sumD_z (s s' : Bool) (A B : Nat) (h : sumD s A s' B = 0) (hA : A ≠ 0) (hB : B ≠ 0) : s ≠ s' := by
  intro hs
  unfold sumD at h
  rw [if_pos (.inl hs)] at h
  omega

theorem zero_word (u : Nat) (hu : F64 u) (h : mg u = 0) : u = if ng u then 9223372036854775808 else 0 := by
  have h2 := hu.out
  unfold mg at h
  unfold ng
  by_cases h3 : 9223372036854775808 ≤ u
  · rw [decide_eq_true h3, if_pos rfl]; omega
  · rw [decide_eq_false h3, if_neg (by decide)]; omega

theorem zz (u v : Nat) (m : mg u = 0) (z1 : u = if ng u then 9223372036854775808 else 0) (z2 : v = if ng v then 9223372036854775808 else 0) :
    (if (ng u && ng v) = true then 9223372036854775808 else 0) = if mg u = 0 ∧ u = v then u else 0 := by
  by_cases h : u = v
  · rw [if_pos (c := mg u = 0 ∧ u = v) ⟨m, h⟩]; subst h; rw [Bool.and_self]; exact z1.symm
  · rw [if_neg (c := mg u = 0 ∧ u = v) (fun hh => h hh.2)]
    have : (ng u && ng v) = false := by
      cases a1 : ng u
      · rfl
      · cases a2 : ng v
        · rfl
        · exfalso; rw [a1] at z1; rw [a2] at z2; exact h (z1.trans z2.symm)
    rw [this]; simp

/-- The sum by reals is the sum. -/
theorem fadd_ff (u v : Nat) (hu : F64 u) (hv : F64 v) (fu : fin u = true) (fv : fin v = true) :
    fadd u v =
      if sumD (ngr u) (lowN (mnt u) (exr u) (plE (mnt u) (exr u) (mnt v) (exr v))) (ngr v) (lowN (mnt v) (exr v) (plE (mnt u) (exr u) (mnt v) (exr v))) = 0
      then (if mg u = 0 ∧ u = v then u else 0)
      else nearM (sumS (ngr u) (lowN (mnt u) (exr u) (plE (mnt u) (exr u) (mnt v) (exr v))) (ngr v) (lowN (mnt v) (exr v) (plE (mnt u) (exr u) (mnt v) (exr v))))
        (sumD (ngr u) (lowN (mnt u) (exr u) (plE (mnt u) (exr u) (mnt v) (exr v))) (ngr v) (lowN (mnt v) (exr v) (plE (mnt u) (exr u) (mnt v) (exr v))))
        (sumE (ngr u) (lowN (mnt u) (exr u) (plE (mnt u) (exr u) (mnt v) (exr v))) (ngr v) (lowN (mnt v) (exr v) (plE (mnt u) (exr u) (mnt v) (exr v))) (plE (mnt u) (exr u) (mnt v) (exr v))) false := by
  rw [fadd_num u v hu hv fu fv]
  by_cases h1 : mnt u = 0
  · have eu := exq_zero u h1
    have n1 : ngr u = false := by unfold ngr; rw [h1]; simp
    have ev := exq_bd v fv
    have hmin : min (exq u) (exq v) = -1074 := by omega
    rw [hmin, n1, h1]
    have l1 : ∀ E, lowN 0 (exr u) E = 0 := fun E => by unfold lowN; rw [Nat.zero_mul]
    rw [l1, Nat.zero_mul, sumD_l, sumD_l]
    by_cases h2 : mnt v = 0
    · have l2 : ∀ E, lowN 0 (exr v) E = 0 := fun E => by unfold lowN; rw [Nat.zero_mul]
      rw [h2, l2, Nat.zero_mul, if_pos rfl, if_pos rfl]
      have z1 := zero_word u hu ((mnt_zero u).1 h1)
      have z2 := zero_word v hv ((mnt_zero v).1 h2)
      exact zz u v ((mnt_zero u).1 h1) z1 z2
    · have n2 : ngr v = ng v := by unfold ngr; rw [show (mnt v == 0) = false by rw [beq_eq_false_iff_ne]; exact h2]; simp
      have e2 : exr v = exq v := by unfold exr; rw [if_neg h2]
      have hE : plE 0 (exr u) (mnt v) (exr v) = exq v := by unfold plE; rw [if_pos rfl, e2]
      have hp := Nat.pow_pos (n := (exq v - -1074).toNat) (show 0 < 2 by decide)
      have hB : mnt v * 2 ^ (exq v - -1074).toNat ≠ 0 := Nat.mul_ne_zero h2 (by omega)
      have hl : lowN (mnt v) (exr v) (exq v) = mnt v := by unfold lowN; rw [e2, Int.sub_self]; simp
      rw [hE, hl, n2, if_neg hB, if_neg h2, sumS_l _ _ _ hB, sumS_l _ _ _ h2, sumE_l, nearM_nearest h2]
      have := nearest_scale (ng v) (mnt v) (exq v - -1074).toNat (exq v) h2
      rw [show exq v - ((exq v - -1074).toNat : Int) = -1074 by omega] at this
      exact this
  · have n1 : ngr u = ng u := by unfold ngr; rw [show (mnt u == 0) = false by rw [beq_eq_false_iff_ne]; exact h1]; simp
    have e1 : exr u = exq u := by unfold exr; rw [if_neg h1]
    by_cases h2 : mnt v = 0
    · have ev := exq_zero v h2
      have n2 : ngr v = false := by unfold ngr; rw [h2]; simp
      have eu := exq_bd u fu
      have hmin : min (exq u) (exq v) = -1074 := by omega
      have l2 : ∀ E, lowN 0 (exr v) E = 0 := fun E => by unfold lowN; rw [Nat.zero_mul]
      rw [hmin, n1, n2, h2, l2, Nat.zero_mul, sumD_r, sumD_r]
      have hE : plE (mnt u) (exr u) 0 (exr v) = exq u := by unfold plE; rw [if_neg h1, if_pos rfl, e1]
      have hp := Nat.pow_pos (n := (exq u - -1074).toNat) (show 0 < 2 by decide)
      have hB : mnt u * 2 ^ (exq u - -1074).toNat ≠ 0 := Nat.mul_ne_zero h1 (by omega)
      have hl : lowN (mnt u) (exr u) (exq u) = mnt u := by unfold lowN; rw [e1, Int.sub_self]; simp
      rw [hE, hl, if_neg hB, if_neg h1, sumS_r _ _ _ hB, sumS_r _ _ _ h1, sumE_r, nearM_nearest h1]
      have := nearest_scale (ng u) (mnt u) (exq u - -1074).toNat (exq u) h1
      rw [show exq u - ((exq u - -1074).toNat : Int) = -1074 by omega] at this
      exact this
    · have n2 : ngr v = ng v := by unfold ngr; rw [show (mnt v == 0) = false by rw [beq_eq_false_iff_ne]; exact h2]; simp
      have e2 : exr v = exq v := by unfold exr; rw [if_neg h2]
      have hE : plE (mnt u) (exr u) (mnt v) (exr v) = min (exq u) (exq v) := by unfold plE; rw [if_neg h1, if_neg h2, e1, e2]
      rw [hE, n1, n2, e1, e2]
      unfold lowN
      generalize hE' : min (exq u) (exq v) = E
      have hA : mnt u * 2 ^ (exq u - E).toNat ≠ 0 := Nat.mul_ne_zero h1 (by have := Nat.pow_pos (n := (exq u - E).toNat) (show 0 < 2 by decide); omega)
      have hB : mnt v * 2 ^ (exq v - E).toNat ≠ 0 := Nat.mul_ne_zero h2 (by have := Nat.pow_pos (n := (exq v - E).toNat) (show 0 < 2 by decide); omega)
      generalize mnt u * 2 ^ (exq u - E).toNat = A at *
      generalize mnt v * 2 ^ (exq v - E).toNat = B at *
      by_cases h3 : sumD (ng u) A (ng v) B = 0
      · rw [if_pos h3, if_pos h3]
        have h4 := sumD_z _ _ _ _ h3 hA hB
        rw [if_neg (c := mg u = 0 ∧ u = v) (fun h => h1 ((mnt_zero u).2 h.1))]
        cases a1 : ng u <;> cases a2 : ng v <;> rw [a1, a2] at h4 <;> first | exact absurd rfl h4 | rfl
      · rw [if_neg h3, if_neg h3, sumE_n _ _ _ _ _ h3, nearM_nearest h3]

end Go.Proofs.Yteikihidblcljaa

/- Plain: products and quotients by reals. No program. -/
namespace Go.Proofs.Yteikihidblcljaa
set_option linter.unusedVariables false

/-- The sign of a product, as bits. -/
def sgw (u v : Nat) : Nat := if ng u != ng v then 9223372036854775808 else 0
theorem word_sgw (u v r : Nat) : dbl.word (ng u ^^ ng v) r = sgw u v + r := by
  unfold Ieee.Format.word sgw
  rw [dbl_sw]
  cases ng u <;> cases ng v <;> simp

theorem mg_madeN (s : Bool) (r : Nat) : mg (madeN s r) = min r 9218868437227405312 := by
  have e : ∀ y, mg y = y % 9223372036854775808 := fun y => by unfold mg; rfl
  rw [e]; unfold madeN
  cases s <;> simp <;> omega

theorem fmul_nl (u v : Nat) (hu : F64 u) (h : nn u = true) : fmul u v = NaNc := by
  obtain ⟨s, t, r⟩ := read_nan u hu h
  unfold fmul Ieee.Format.mul; rw [r, product_nan_l]; rfl
theorem fmul_nr (u v : Nat) (hv : F64 v) (h : nn v = true) : fmul u v = NaNc := by
  obtain ⟨s, t, r⟩ := read_nan v hv h
  unfold fmul Ieee.Format.mul; rw [r, product_nan_r]; rfl
theorem fmul_ii (u v : Nat) (hu : F64 u) (hv : F64 v) (h : inf u = true) (h' : inf v = true) : fmul u v = sgw u v + 9218868437227405312 := by
  unfold fmul Ieee.Format.mul
  rw [read_infb u hu h, read_infb v hv h']
  simp only [Ieee.Datum.product, Option.map_some, Option.getD_some]
  rw [← word_sgw, ← dbl_inf]; rfl
theorem fmul_if (u v : Nat) (hu : F64 u) (hv : F64 v) (h : inf u = true) (h' : fin v = true) : fmul u v = if mg v = 0 then NaNc else sgw u v + 9218868437227405312 := by
  unfold fmul Ieee.Format.mul
  rw [read_infb u hu h, read_fin v hv h']
  simp only [Ieee.Datum.product]
  by_cases h0 : mg v = 0
  · rw [if_pos ((mnt_zero v).2 h0), if_pos h0]; rfl
  · rw [if_neg (fun h => h0 ((mnt_zero v).1 h)), if_neg h0]
    simp only [Option.map_some, Option.getD_some]
    rw [← word_sgw, ← dbl_inf]; rfl
theorem fmul_fi (u v : Nat) (hu : F64 u) (hv : F64 v) (h : fin u = true) (h' : inf v = true) : fmul u v = if mg u = 0 then NaNc else sgw u v + 9218868437227405312 := by
  unfold fmul Ieee.Format.mul
  rw [read_infb v hv h', read_fin u hu h]
  simp only [Ieee.Datum.product]
  by_cases h0 : mg u = 0
  · rw [if_pos ((mnt_zero u).2 h0), if_pos h0]; rfl
  · rw [if_neg (fun h => h0 ((mnt_zero u).1 h)), if_neg h0]
    simp only [Option.map_some, Option.getD_some]
    rw [show (ng v ^^ ng u) = (ng u ^^ ng v) from Bool.xor_comm _ _, ← word_sgw, ← dbl_inf]; rfl
theorem fmul_ff (u v : Nat) (hu : F64 u) (hv : F64 v) (h : fin u = true) (h' : fin v = true) (s : Bool) :
    fmul u v = sgw u v + mg (nearM s (mnt u * mnt v) (if mnt u * mnt v = 0 then 0 else exr u + exr v) false) := by
  unfold fmul Ieee.Format.mul
  rw [read_fin u hu h, read_fin v hv h']
  simp only [Ieee.Datum.product, Option.map_some, Option.getD_some]
  rw [write_num]
  by_cases h0 : mnt u * mnt v = 0
  · rw [h0, nearest_zero]
    unfold nearM sgw
    rw [if_pos rfl, mg_0]
    cases ng u <;> cases ng v <;> rfl
  · have h1 : mnt u ≠ 0 := fun h => h0 (by rw [h, Nat.zero_mul])
    have h2 : mnt v ≠ 0 := fun h => h0 (by rw [h, Nat.mul_zero])
    rw [if_neg h0]
    unfold exr
    rw [if_neg h1, if_neg h2]
    unfold nearM
    rw [if_neg h0, mg_madeN, nearest_rnd _ _ _ h0, word_sgw]

theorem fdiv_nl (u v : Nat) (hu : F64 u) (h : nn u = true) : fdiv u v = NaNc := by
  obtain ⟨s, t, r⟩ := read_nan u hu h
  unfold fdiv Ieee.Format.div; rw [r, quotient_nan_l]; rfl
theorem fdiv_nr (u v : Nat) (hv : F64 v) (h : nn v = true) : fdiv u v = NaNc := by
  obtain ⟨s, t, r⟩ := read_nan v hv h
  unfold fdiv Ieee.Format.div; rw [r, quotient_nan_r]; rfl
theorem fdiv_ii (u v : Nat) (hu : F64 u) (hv : F64 v) (h : inf u = true) (h' : inf v = true) : fdiv u v = NaNc := by
  unfold fdiv Ieee.Format.div
  rw [read_infb u hu h, read_infb v hv h']; rfl
theorem fdiv_if (u v : Nat) (hu : F64 u) (hv : F64 v) (h : inf u = true) (h' : fin v = true) : fdiv u v = sgw u v + 9218868437227405312 := by
  unfold fdiv Ieee.Format.div
  rw [read_infb u hu h, read_fin v hv h']
  simp only [Ieee.Datum.quotient, Option.map_some, Option.getD_some]
  rw [← word_sgw, ← dbl_inf]; rfl
theorem fdiv_fi (u v : Nat) (hu : F64 u) (hv : F64 v) (h : fin u = true) (h' : inf v = true) : fdiv u v = sgw u v := by
  unfold fdiv Ieee.Format.div
  rw [read_infb v hv h', read_fin u hu h]
  simp only [Ieee.Datum.quotient, Option.map_some, Option.getD_some]
  rw [write_num, nearest_zero]
  unfold sgw
  cases ng u <;> cases ng v <;> rfl
theorem fdiv_f0 (u v : Nat) (hu : F64 u) (hv : F64 v) (h : fin u = true) (h' : fin v = true) (hz : mg v = 0) : fdiv u v = if mg u = 0 then NaNc else sgw u v + 9218868437227405312 := by
  unfold fdiv Ieee.Format.div
  rw [read_fin u hu h, read_fin v hv h']
  simp only [Ieee.Datum.quotient]
  rw [if_pos ((mnt_zero v).2 hz)]
  by_cases h0 : mg u = 0
  · rw [if_pos ((mnt_zero u).2 h0), if_pos h0]; rfl
  · rw [if_neg (fun h => h0 ((mnt_zero u).1 h)), if_neg h0]
    simp only [Option.map_some, Option.getD_some]
    rw [← word_sgw, ← dbl_inf]; rfl

/-- The quotient's digits: 16 more make nothing. -/
theorem quot_rnd (m n : Nat) (i j : Int) (hm : m ≠ 0) (hn : n ≠ 0) (hs : m < 9007199254740992) :
    rnd (2 * (m * 2 ^ (54 + n.log2 - m.log2) / n) + (m * 2 ^ (54 + n.log2 - m.log2) % n != 0).toNat) (i - j - (54 + n.log2 - m.log2 : Nat) - 1) false =
    rnd (m * 2 ^ ovK m n / n) (i - ovK m n - j) (nz (m * 2 ^ ovK m n % n)) := by
  have lm : m.log2 ≤ 52 := by
    have := (Nat.log2_lt hm).2 (show m < 2 ^ 53 by rw [show 2 ^ 53 = 9007199254740992 by decide]; exact hs)
    omega
  have hk : ovK m n = (54 + n.log2 - m.log2) + 16 := by
    unfold ovK bl; rw [if_neg hm, if_neg hn]; omega
  rw [hk]
  generalize hK : 54 + n.log2 - m.log2 = K
  have hX : 2 ^ (54 + n.log2) ≤ m * 2 ^ K := by
    have : 2 ^ m.log2 ≤ m := Nat.log2_self_le hm
    calc 2 ^ (54 + n.log2) = 2 ^ m.log2 * 2 ^ K := by rw [← Nat.pow_add]; congr 1; omega
      _ ≤ m * 2 ^ K := Nat.mul_le_mul_right _ this
  have hQ : 54 ≤ bl (m * 2 ^ K / n) := by
    have h1 : n < 2 ^ (n.log2 + 1) := Nat.lt_log2_self
    have h2 : 2 ^ 53 ≤ m * 2 ^ K / n := by
      rw [Nat.le_div_iff_mul_le (by omega)]
      refine Nat.le_trans ?_ hX
      rw [show 54 + n.log2 = 53 + (n.log2 + 1) by omega, Nat.pow_add 2 53]
      exact Nat.mul_le_mul_left _ (by omega)
    refine Nat.le_of_not_lt fun hc => ?_
    have h3 := bl_lt (m * 2 ^ K / n)
    have h4 : 2 ^ bl (m * 2 ^ K / n) ≤ 2 ^ 53 := Nat.pow_le_pow_right (by decide) (by omega)
    omega
  have e16 : m * 2 ^ (K + 16) = m * 2 ^ K * 2 ^ 16 := by rw [Nat.pow_add, Nat.mul_assoc]
  rw [e16]
  generalize m * 2 ^ K = X at *
  generalize hq : X / n = Q at *
  have hX2 := Nat.div_add_mod X n
  rw [hq] at hX2
  have hpn : 0 < n := by omega
  have l1 : X % n < n := Nat.mod_lt _ hpn
  -- the kit's
  have s1 : rnd (2 * Q + (X % n != 0).toNat) (i - j - K - 1) false = rnd Q (i - j - K) (nz (X % n)) := by
    have hh : (2 * Q + (X % n != 0).toNat) / 2 ^ 1 = Q := by
      rw [Nat.pow_one]; have : (X % n != 0).toNat ≤ 1 := by cases (X % n != 0) <;> decide
      omega
    have := rnd_sticky (2 * Q + (X % n != 0).toNat) 1 (i - j - K) false (nz (X % n)) (by rw [hh]; exact hQ) (by
      rw [nz_iff, Nat.pow_one]
      by_cases h0 : X % n = 0
      · rw [h0]; simp
      · rw [show (X % n != 0) = true by rw [bne_iff_ne]; exact h0]
        constructor
        · intro _; left; show (2 * Q + 1) % 2 ≠ 0; omega
        · intro _; exact h0)
    rw [hh] at this
    exact this
  have d16 : X * 2 ^ 16 / n / 2 ^ 16 = Q := by
    rw [Nat.div_div_eq_div_mul, Nat.mul_comm n, ← Nat.div_div_eq_div_mul, Nat.mul_div_cancel _ (by decide), hq]
  have s2 : rnd (X * 2 ^ 16 / n) (i - j - K - 16) (nz (X * 2 ^ 16 % n)) = rnd Q (i - j - K) (nz (X % n)) := by
    have := rnd_sticky (X * 2 ^ 16 / n) 16 (i - j - K) (nz (X * 2 ^ 16 % n)) (nz (X % n)) (by rw [d16]; exact hQ) (by
      rw [nz_iff, nz_iff]
      have a1 := Nat.div_add_mod (X * 2 ^ 16) n
      have a2 := Nat.div_add_mod (X * 2 ^ 16 / n) (2 ^ 16)
      rw [d16] at a2
      constructor
      · intro h0
        refine Decidable.byContradiction fun hc => ?_
        have b1 : X * 2 ^ 16 / n % 2 ^ 16 = 0 := Decidable.byContradiction fun h => hc (.inl h)
        have b2 : X * 2 ^ 16 % n = 0 := Decidable.byContradiction fun h => hc (.inr h)
        rw [b1, Nat.add_zero] at a2
        rw [b2, Nat.add_zero, ← a2] at a1
        have a3 : X = n * Q := by
          refine Nat.eq_of_mul_eq_mul_right (show 0 < 2 ^ 16 by decide) ?_
          rw [← a1, Nat.mul_assoc, Nat.mul_comm Q]
        omega
      · intro h h0
        have a3 : X = n * Q := by omega
        have a4 : X * 2 ^ 16 = n * (Q * 2 ^ 16) := by rw [a3, Nat.mul_assoc]
        rw [a4, Nat.mul_div_cancel_left _ hpn, Nat.mul_mod_left, Nat.mul_mod_right] at h
        rcases h with h | h <;> exact h rfl)
    rw [d16] at this
    exact this
  rw [s1, show i - ((K + 16 : Nat) : Int) - j = i - j - K - 16 by omega, s2]

theorem quot_pos (m n : Nat) (hm : m ≠ 0) (hn : n ≠ 0) (hs : m < 9007199254740992) : m * 2 ^ (54 + n.log2 - m.log2) / n ≠ 0 ∧ m * 2 ^ ovK m n / n ≠ 0 := by
  have lm : m.log2 ≤ 52 := by
    have := (Nat.log2_lt hm).2 (show m < 2 ^ 53 by rw [show 2 ^ 53 = 9007199254740992 by decide]; exact hs)
    omega
  have hk : ovK m n = (54 + n.log2 - m.log2) + 16 := by
    unfold ovK bl; rw [if_neg hm, if_neg hn]; omega
  have h0 : 2 ^ m.log2 ≤ m := Nat.log2_self_le hm
  have h1 : n < 2 ^ (n.log2 + 1) := Nat.lt_log2_self
  have key : ∀ k, n.log2 + 1 ≤ m.log2 + k → m * 2 ^ k / n ≠ 0 := fun k hk => by
    have h2 : 2 ^ (n.log2 + 1) ≤ 2 ^ m.log2 * 2 ^ k := by rw [← Nat.pow_add]; exact Nat.pow_le_pow_right (by decide) hk
    have h3 : 2 ^ m.log2 * 2 ^ k ≤ m * 2 ^ k := Nat.mul_le_mul_right _ h0
    have := Nat.div_pos (show n ≤ m * 2 ^ k by omega) (by omega)
    omega
  exact ⟨key _ (by omega), key _ (by omega)⟩

theorem fdiv_ff (u v : Nat) (hu : F64 u) (hv : F64 v) (h : fin u = true) (h' : fin v = true) (hz : mg v ≠ 0) (s : Bool) :
    fdiv u v = sgw u v + mg (overN s (mnt u) (exr u) (mnt v) (exr v)) := by
  have hn : mnt v ≠ 0 := fun h => hz ((mnt_zero v).1 h)
  unfold fdiv Ieee.Format.div
  rw [read_fin u hu h, read_fin v hv h']
  simp only [Ieee.Datum.quotient]
  rw [if_neg hn]
  simp only [Option.map_some, Option.getD_some]
  rw [write_num]
  unfold overN
  by_cases h0 : mnt u = 0
  · rw [if_pos h0, h0, mg_0]
    rw [show (2 * (0 <<< (dbl.fractionBits + 2 + (mnt v).log2 - Nat.log2 0) / mnt v) + (0 <<< (dbl.fractionBits + 2 + (mnt v).log2 - Nat.log2 0) % mnt v != 0).toNat) = 0 by
      rw [Nat.zero_shiftLeft, Nat.zero_div, Nat.zero_mod]; rfl]
    rw [nearest_zero]
    unfold sgw
    cases ng u <;> cases ng v <;> rfl
  · rw [if_neg h0, Nat.shiftLeft_eq]
    have e1 : exr u = exq u := by unfold exr; rw [if_neg h0]
    have e2 : exr v = exq v := by unfold exr; rw [if_neg hn]
    rw [e1, e2]
    have hq := quot_rnd (mnt u) (mnt v) (exq u) (exq v) h0 hn (mnt_lt u)
    obtain ⟨p1, p2⟩ := quot_pos (mnt u) (mnt v) h0 hn (mnt_lt u)
    rw [show dbl.fractionBits + 2 = 54 from rfl]
    unfold nearM
    rw [if_neg p2, mg_madeN, nearest_rnd _ _ _ (by omega), word_sgw, hq]

end Go.Proofs.Yteikihidblcljaa

/- The walk of the reference's Add. -/
namespace Go.Proofs.Yteikihidblcljaa
open Go.RowKit
set_option linter.unusedSimpArgs false
set_option linter.unusedVariables false

theorem nd_mnt (u : Nat) : nd (mnt u) ≤ 2 := nd_le (by rw [BB_pow]; exact Nat.lt_trans (mnt_lt u) (by decide))
theorem exr_bd (u : Nat) (h : fin u = true) : -1074 ≤ exr u ∧ exr u ≤ 971 := by
  have := exq_bd u h
  unfold exr; split <;> omega
theorem sumD_nd (s s' : Bool) (A B : Nat) (hA : nd A ≤ 100) (hB : nd B ≤ 100) : nd (sumD s A s' B) ≤ 101 := by
  have h1 : A < BB ^ 100 := Nat.lt_of_lt_of_le (lt_nd A) (Nat.pow_le_pow_right (by decide) hA)
  have h2 : B < BB ^ 100 := Nat.lt_of_lt_of_le (lt_nd B) (Nat.pow_le_pow_right (by decide) hB)
  refine nd_le ?_
  have h3 : sumD s A s' B ≤ A + B := by unfold sumD; split <;> (try split) <;> (try split) <;> omega
  rw [Nat.pow_succ, show BB ^ 100 * BB = BB ^ 100 * 4294967296 from rfl]
  generalize BB ^ 100 = Z at *
  omega
theorem plE_bd {d d' : Nat} {e e' : Int} (h : -1074 ≤ e ∧ e ≤ 971) (h' : -1074 ≤ e' ∧ e' ≤ 971) : -1074 ≤ plE d e d' e' ∧ plE d e d' e' ≤ 971 := by
  unfold plE; split; omega; split; omega; omega


theorem of_real (u : Nat) (hu : F64 u) (w : World) : Calls Try.prog 61 #[.int .u64 u] w (NRet (ngr u) (mnt u) (exr u) w) := of_any u hu w

end Go.Proofs.Yteikihidblcljaa

/- The walks of the reference's Sub and Mul. -/
namespace Go.Proofs.Yteikihidblcljaa
open Go.RowKit
set_option linter.unusedSimpArgs false
set_option linter.unusedVariables false

theorem mnt_flip (v : Nat) : mnt (flip64 v) = mnt v := by unfold mnt; rw [mg_flip]
theorem exq_flip (v : Nat) : exq (flip64 v) = exq v := by unfold exq; rw [mg_flip]
theorem fin_flip (v : Nat) : fin (flip64 v) = fin v := by unfold fin; rw [mg_flip]
theorem inf_flip (v : Nat) : inf (flip64 v) = inf v := by unfold inf; rw [mg_flip]
theorem nn_flip (v : Nat) : nn (flip64 v) = nn v := by unfold nn; rw [mg_flip]

theorem fsub_flip (u v : Nat) (hv : F64 v) (h : nn v = false) : fadd u (flip64 v) = fsub u v := by
  unfold fadd fsub Ieee.Format.add Ieee.Format.sub
  have e : dbl.read (flip64 v) = (dbl.read v).opposite := by
    rcases ways v with ⟨n, i, f⟩ | ⟨n, i, f⟩ | ⟨n, i, f⟩
    · rw [h] at n; cases n
    · rw [read_infb v hv i, read_infb (flip64 v) (F64_flip v) (by rw [inf_flip]; exact i), ng_flip]; rfl
    · rw [read_fin v hv f, read_fin (flip64 v) (F64_flip v) (by rw [fin_flip]; exact f), ng_flip, mnt_flip, exq_flip]; rfl
  rw [e]
theorem fsub_nr (u v : Nat) (hv : F64 v) (h : nn v = true) : fsub u v = NaNc := by
  obtain ⟨s, t, r⟩ := read_nan v hv h
  unfold fsub Ieee.Format.sub; rw [r]; simp only [Ieee.Datum.opposite]; rw [sum_nan_r]; rfl

theorem ng_bit (u : Nat) (hu : F64 u) : u.testBit 63 = ng u := by
  have h := hu.out
  rw [Nat.testBit_eq_decide_div_mod_eq]
  unfold ng
  rw [show (2 : Nat) ^ 63 = 9223372036854775808 by decide]
  by_cases h1 : 9223372036854775808 ≤ u
  · rw [decide_eq_true h1, decide_eq_true (by omega)]
  · rw [decide_eq_false h1, decide_eq_false (by omega)]

theorem sgw_bits (u v : Nat) (hu : F64 u) (hv : F64 v) : bits .and .u64 (bits .xor .u64 (u : Int) v) 9223372036854775808 = ((sgw u v : Nat) : Int) := by
  rw [u64_xor_nat u v hu.out hv.out]
  have hx : u ^^^ v < 18446744073709551616 := by
    have := Nat.xor_lt_two_pow (n := 64) (x := u) (y := v) (by have := hu.out; rw [show (2 : Nat) ^ 64 = 18446744073709551616 by decide]; exact this) (by have := hv.out; rw [show (2 : Nat) ^ 64 = 18446744073709551616 by decide]; exact this)
    rw [show (2 : Nat) ^ 64 = 18446744073709551616 by decide] at this
    exact this
  have := u64_and_nat (u ^^^ v) 9223372036854775808 hx (by decide)
  rw [show ((9223372036854775808 : Nat) : Int) = 9223372036854775808 from rfl] at this
  rw [this]
  congr 1
  refine Nat.eq_of_testBit_eq fun i => ?_
  rw [Nat.testBit_and, Nat.testBit_xor]
  unfold sgw
  by_cases hi : 63 = i
  · subst hi
    rw [ng_bit u hu, ng_bit v hv]
    cases ng u <;> cases ng v <;> decide
  · have e : Nat.testBit 9223372036854775808 i = false := by
      rw [show (9223372036854775808 : Nat) = 2 ^ 63 by decide, Nat.testBit_two_pow]; simp [hi]
    rw [e, Bool.and_false]
    split
    · exact e.symm
    · exact (Nat.zero_testBit i).symm

end Go.Proofs.Yteikihidblcljaa

/- The walk of the reference's Mul. -/
namespace Go.Proofs.Yteikihidblcljaa
open Go.RowKit
set_option linter.unusedSimpArgs false
set_option linter.unusedVariables false

theorem sgw_le (u v : Nat) : sgw u v ≤ 9223372036854775808 := by unfold sgw; split <;> omega


theorem fin_ni {u : Nat} (h : fin u = true) : nn u = false ∧ inf u = false := by
  rcases ways u with ⟨_, _, f⟩ | ⟨_, _, f⟩ | ⟨a, b, _⟩
  · rw [h] at f; cases f
  · rw [h] at f; cases f
  · exact ⟨a, b⟩
theorem inf_nz {u : Nat} (h : inf u = true) : ((mg u : Int) == 0) = false := by
  have := inf_mg h
  unfold INF at this
  rw [beq_eq_false_iff_ne]; omega

set_option maxHeartbeats 16000000 in
set_option maxRecDepth 100000 in
theorem rMul_special (u v : Nat) (hu : F64 u) (hv : F64 v) (hs : ¬ (fin u = true ∧ fin v = true)) (w : World) :
    Calls Try.prog 65 #[.int .u64 u, .int .u64 v] w (URet (fmul u v) w) := by
  have bx := sgw_bits u v hu hv
  have bl := sgw_le u v
  have HW := Hd.mk (fmul_ii u v hu hv)
  have HW1 := Hd.mk (fmul_if u v hu hv)
  have HW2 := Hd.mk (fmul_fi u v hu hv)
  generalize sgw u v = σ at *
  rcases ways u with ⟨n1, i1, f1⟩ | ⟨n1, i1, f1⟩ | ⟨n1, i1, f1⟩
  · have HR : Hd (NaNc = fmul u v) := ⟨(fmul_nl u v hu n1).symm⟩
    unfold NaNc at HR
    generalize fmul u v = R at *
    clear hs f1 i1 HW HW1 HW2
    go_enter Try.func65, Try.ntmps65
    go_wp2_with fail
    refine (rIsNaN_any _ hu _).mono ?_
    rintro en w' ⟨rfl, rfl⟩
    go_wp2_with fail
    go_ret
    exact ⟨ret_int (by have := HR.out; omega), Below.refl _ _⟩
  all_goals rcases ways v with ⟨n2, i2, f2⟩ | ⟨n2, i2, f2⟩ | ⟨n2, i2, f2⟩
  case inr.inl.inl | inr.inr.inl =>
    have HR : Hd (NaNc = fmul u v) := ⟨(fmul_nr u v hv n2).symm⟩
    unfold NaNc at HR
    generalize fmul u v = R at *
    clear hs f1 i1 f2 i2 HW HW1 HW2
    go_enter Try.func65, Try.ntmps65
    go_wp2_with fail
    refine (rIsNaN_any _ hu _).mono ?_
    rintro en w' ⟨rfl, rfl⟩
    go_wp2_with fail
    refine (rIsNaN_any _ hv _).mono ?_
    rintro en w' ⟨rfl, rfl⟩
    go_wp2_with fail
    go_ret
    exact ⟨ret_int (by have := HR.out; omega), Below.refl _ _⟩
  case inr.inl.inr.inl =>
    have HR : Hd (σ + 9218868437227405312 = fmul u v) := ⟨(HW.out i1 i2).symm⟩
    have z1 := inf_nz i1
    have z2 := inf_nz i2
    generalize fmul u v = R at *
    clear hs f1 f2 HW HW1 HW2
    go_enter Try.func65, Try.ntmps65
    go_wp2_with fail
    refine (rIsNaN_any _ hu _).mono ?_
    rintro en w' ⟨rfl, rfl⟩
    go_wp2_with fail
    refine (rIsNaN_any _ hv _).mono ?_
    rintro en w' ⟨rfl, rfl⟩
    go_wp2_with fail
    refine (rIsInf_any _ hu _).mono ?_
    rintro en w' ⟨rfl, rfl⟩
    go_wp2_with fail
    refine (rSize_any _ hv _).mono ?_
    rintro en w' ⟨rfl, rfl⟩
    go_wp2_with fail
    refine (rIsInf_any _ hv _).mono ?_
    rintro en w' ⟨rfl, rfl⟩
    go_wp2_with fail
    refine (rSize_any _ hu _).mono ?_
    rintro en w' ⟨rfl, rfl⟩
    go_wp2_with fail
    refine (rIsInf_any _ hu _).mono ?_
    rintro en w' ⟨rfl, rfl⟩
    go_wp2_with fail
    go_ret
    exact ⟨ret_int (by have := HR.out; omega), Below.refl _ _⟩
  case inr.inl.inr.inr =>
    have hw := HW1.out i1 f2
    by_cases hz : mg v = 0
    · have HR : Hd (NaNc = fmul u v) := ⟨by rw [hw, if_pos hz]⟩
      unfold NaNc at HR
      have z2 : ((mg v : Int) == 0) = true := by rw [hz]; rfl
      generalize fmul u v = R at *
      clear hs f1 f2 HW HW1 HW2 hz hw
      go_enter Try.func65, Try.ntmps65
      go_wp2_with fail
      refine (rIsNaN_any _ hu _).mono ?_
      rintro en w' ⟨rfl, rfl⟩
      go_wp2_with fail
      refine (rIsNaN_any _ hv _).mono ?_
      rintro en w' ⟨rfl, rfl⟩
      go_wp2_with fail
      refine (rIsInf_any _ hu _).mono ?_
      rintro en w' ⟨rfl, rfl⟩
      go_wp2_with fail
      refine (rSize_any _ hv _).mono ?_
      rintro en w' ⟨rfl, rfl⟩
      go_wp2_with fail
      go_ret
      exact ⟨ret_int (by have := HR.out; omega), Below.refl _ _⟩
    · have HR : Hd (σ + 9218868437227405312 = fmul u v) := ⟨by rw [hw, if_neg hz]⟩
      have z2 : ((mg v : Int) == 0) = false := by rw [beq_eq_false_iff_ne]; omega
      generalize fmul u v = R at *
      clear hs f1 f2 HW HW1 HW2 hz hw
      go_enter Try.func65, Try.ntmps65
      go_wp2_with fail
      refine (rIsNaN_any _ hu _).mono ?_
      rintro en w' ⟨rfl, rfl⟩
      go_wp2_with fail
      refine (rIsNaN_any _ hv _).mono ?_
      rintro en w' ⟨rfl, rfl⟩
      go_wp2_with fail
      refine (rIsInf_any _ hu _).mono ?_
      rintro en w' ⟨rfl, rfl⟩
      go_wp2_with fail
      refine (rSize_any _ hv _).mono ?_
      rintro en w' ⟨rfl, rfl⟩
      go_wp2_with fail
      refine (rIsInf_any _ hv _).mono ?_
      rintro en w' ⟨rfl, rfl⟩
      go_wp2_with fail
      refine (rIsInf_any _ hu _).mono ?_
      rintro en w' ⟨rfl, rfl⟩
      go_wp2_with fail
      go_ret
      exact ⟨ret_int (by have := HR.out; omega), Below.refl _ _⟩
  case inr.inr.inr.inl =>
    have hw := HW2.out f1 i2
    by_cases hz : mg u = 0
    · have HR : Hd (NaNc = fmul u v) := ⟨by rw [hw, if_pos hz]⟩
      unfold NaNc at HR
      have z2 : ((mg u : Int) == 0) = true := by rw [hz]; rfl
      generalize fmul u v = R at *
      clear hs f1 f2 HW HW1 HW2 hz hw
      go_enter Try.func65, Try.ntmps65
      go_wp2_with fail
      refine (rIsNaN_any _ hu _).mono ?_
      rintro en w' ⟨rfl, rfl⟩
      go_wp2_with fail
      refine (rIsNaN_any _ hv _).mono ?_
      rintro en w' ⟨rfl, rfl⟩
      go_wp2_with fail
      refine (rIsInf_any _ hu _).mono ?_
      rintro en w' ⟨rfl, rfl⟩
      go_wp2_with fail
      refine (rIsInf_any _ hv _).mono ?_
      rintro en w' ⟨rfl, rfl⟩
      go_wp2_with fail
      refine (rSize_any _ hu _).mono ?_
      rintro en w' ⟨rfl, rfl⟩
      go_wp2_with fail
      go_ret
      exact ⟨ret_int (by have := HR.out; omega), Below.refl _ _⟩
    · have HR : Hd (σ + 9218868437227405312 = fmul u v) := ⟨by rw [hw, if_neg hz]⟩
      have z2 : ((mg u : Int) == 0) = false := by rw [beq_eq_false_iff_ne]; omega
      generalize fmul u v = R at *
      clear hs f1 f2 HW HW1 HW2 hz hw
      go_enter Try.func65, Try.ntmps65
      go_wp2_with fail
      refine (rIsNaN_any _ hu _).mono ?_
      rintro en w' ⟨rfl, rfl⟩
      go_wp2_with fail
      refine (rIsNaN_any _ hv _).mono ?_
      rintro en w' ⟨rfl, rfl⟩
      go_wp2_with fail
      refine (rIsInf_any _ hu _).mono ?_
      rintro en w' ⟨rfl, rfl⟩
      go_wp2_with fail
      refine (rIsInf_any _ hv _).mono ?_
      rintro en w' ⟨rfl, rfl⟩
      go_wp2_with fail
      refine (rSize_any _ hu _).mono ?_
      rintro en w' ⟨rfl, rfl⟩
      go_wp2_with fail
      refine (rIsInf_any _ hu _).mono ?_
      rintro en w' ⟨rfl, rfl⟩
      go_wp2_with fail
      refine (rIsInf_any _ hv _).mono ?_
      rintro en w' ⟨rfl, rfl⟩
      go_wp2_with fail
      go_ret
      exact ⟨ret_int (by have := HR.out; omega), Below.refl _ _⟩
  case inr.inr.inr.inr => exact absurd ⟨f1, f2⟩ hs

theorem F64_nearM (s : Bool) (d : Nat) (e : Int) (more : Bool) : F64 (nearM s d e more) := by
  refine ⟨?_⟩
  unfold nearM madeN
  split
  · decide
  · split <;> omega

set_option maxHeartbeats 16000000 in
set_option maxRecDepth 100000 in
theorem rMul_fin (u v : Nat) (hu : F64 u) (hv : F64 v) (f1 : fin u = true) (f2 : fin v = true) (w : World) :
    Calls Try.prog 65 #[.int .u64 u, .int .u64 v] w (URet (fmul u v) w) := by
  have bx := sgw_bits u v hu hv
  have bl := sgw_le u v
  obtain ⟨n1, i1⟩ := fin_ni f1
  obtain ⟨n2, i2⟩ := fin_ni f2
  have HF := Hd.mk (fmul_ff u v hu hv f1 f2 ((ngr u != ngr v) && !(mnt u * mnt v == 0)))
  have b1 := exr_bd u f1
  have b2 := exr_bd v f2
  have m1 := nd_mnt u
  have m2 := nd_mnt v
  have HO := Hd.mk (of_real u hu)
  have HO' := Hd.mk (of_real v hv)
  have HP : Hd (∀ w a c a' c', Dgs w a (mnt u) → Dgs w a' (mnt v) → Calls Try.prog 66 #[.agg #[.bool (ngr u), .slice a (nd (mnt u)) c, .int .i64 (exr u)], .agg #[.bool (ngr v), .slice a' (nd (mnt v)) c', .int .i64 (exr v)]] w
      (NRet ((ngr u != ngr v) && !(mnt u * mnt v == 0)) (mnt u * mnt v) (if mnt u * mnt v = 0 then 0 else exr u + exr v) w)) :=
    ⟨fun w a c a' c' h h' => times_any (ngr u) a (mnt u) c (exr u) (ngr v) a' (mnt v) c' (exr v) w h h' (by omega) (by omega) (by omega) (by omega)⟩
  have nD : nd (mnt u * mnt v) ≤ 4 := by
    refine nd_le ?_
    have h1 := mnt_lt u
    have h2 := mnt_lt v
    have : mnt u * mnt v ≤ 9007199254740992 * 9007199254740992 := Nat.mul_le_mul (by omega) (by omega)
    exact Nat.lt_of_le_of_lt this (by decide)
  have hX : -3000 ≤ (if mnt u * mnt v = 0 then 0 else exr u + exr v) ∧ (if mnt u * mnt v = 0 then 0 else exr u + exr v) ≤ 3000 := by split <;> omega
  generalize (if mnt u * mnt v = 0 then 0 else exr u + exr v) = X at *
  generalize ((ngr u != ngr v) && !(mnt u * mnt v == 0)) = S at *
  generalize mnt u * mnt v = D at *
  have HN : Hd (∀ w a c, Dgs w a D → Calls Try.prog 77 #[.agg #[.bool S, .slice a (nd D) c, .int .i64 X]] w (URet (nearM S D X false) w)) := ⟨fun w a c h => near_any S a D c X w h (by omega) (by omega)⟩
  have hNF := F64_nearM S D X false
  generalize nearM S D X false = R1 at *
  have HSz := Hd.mk (rSize_any R1 hNF)
  have hm := mg_lt R1
  generalize mg R1 = m at *
  generalize sgw u v = σ at *
  have HR : Hd (σ + m = fmul u v) := ⟨HF.out.symm⟩
  clear HF b1 b2 m1 m2 f1 f2
  generalize fmul u v = R at *
  generalize ngr u = s at *
  generalize ngr v = s' at *
  generalize exr u = e at *
  generalize exr v = e' at *
  generalize mnt u = A at *
  generalize mnt v = B at *
  go_enter Try.func65, Try.ntmps65
  go_wp2_with fail
  refine (rIsNaN_any _ hu _).mono ?_
  rintro en w' ⟨rfl, rfl⟩
  go_wp2_with fail
  refine (rIsNaN_any _ hv _).mono ?_
  rintro en w' ⟨rfl, rfl⟩
  go_wp2_with fail
  refine (rIsInf_any _ hu _).mono ?_
  rintro en w' ⟨rfl, rfl⟩
  go_wp2_with fail
  refine (rIsInf_any _ hv _).mono ?_
  rintro en w' ⟨rfl, rfl⟩
  go_wp2_with fail
  refine (rIsInf_any _ hu _).mono ?_
  rintro en w' ⟨rfl, rfl⟩
  go_wp2_with fail
  refine (rIsInf_any _ hv _).mono ?_
  rintro en w' ⟨rfl, rfl⟩
  go_wp2_with fail
  refine (HO.out _).mono ?_; rintro en w1 ⟨a1, c1, rfl, hd1, hb1⟩
  have D1 := Hd.mk hd1
  have B1 := Hd.mk hb1
  clear hd1 hb1
  go_wp2_with fail
  refine (HO'.out _).mono ?_; rintro en w2 ⟨a2, c2, rfl, hd2, hb2⟩
  have D2 := Hd.mk hd2
  have B2 := Hd.mk (B1.out.trans (hb2.mono B1.out.size))
  have D1' := Hd.mk (D1.out.below hb2)
  clear hd2 hb2
  go_wp2_with fail
  refine (HP.out _ _ _ _ _ D1'.out D2.out).mono ?_; rintro en w3 ⟨a3, c3, rfl, hd3, hb3⟩
  have D3 := Hd.mk hd3
  have B3 := Hd.mk (B2.out.trans (hb3.mono B2.out.size))
  clear hd3 hb3
  generalize nd A = nA at *
  generalize nd B = nB at *
  go_wp2_with fail
  refine (HN.out _ _ _ D3.out).mono ?_; rintro en w5 ⟨rfl, hb5⟩
  have B5 := Hd.mk (B3.out.trans (hb5.mono B3.out.size))
  clear hb5
  go_wp2_with fail
  refine (HSz.out _).mono ?_; rintro en w6 ⟨rfl, rfl⟩
  go_wp2_with fail
  go_ret
  exact ⟨ret_int (by have := HR.out; omega), B5.out⟩

/-- Mul is the product. -/
theorem rMul_any (u v : Nat) (hu : F64 u) (hv : F64 v) (w : World) :
    Calls Try.prog 65 #[.int .u64 u, .int .u64 v] w (URet (fmul u v) w) := by
  by_cases h : fin u = true ∧ fin v = true
  · exact rMul_fin u v hu hv h.1 h.2 w
  · exact rMul_special u v hu hv h w

end Go.Proofs.Yteikihidblcljaa

/- The walk of the reference's Div. -/
namespace Go.Proofs.Yteikihidblcljaa
open Go.RowKit
set_option linter.unusedSimpArgs false
set_option linter.unusedVariables false

theorem mg_mg (u : Nat) : mg (mg u) = mg u := by
  have e : ∀ y, mg y = y % 9223372036854775808 := fun y => by unfold mg; rfl
  rw [e (mg u)]; exact Nat.mod_eq_of_lt (mg_lt u)
theorem F64_mg (u : Nat) : F64 (mg u) := ⟨by have := mg_lt u; omega⟩
theorem mnt_mg (u : Nat) : mnt (mg u) = mnt u := by unfold mnt; rw [mg_mg]
theorem exr_mg (u : Nat) : exr (mg u) = exr u := by unfold exr exq; rw [mnt_mg, mg_mg]

theorem F64_overN (s : Bool) (d : Nat) (e : Int) (d' : Nat) (e' : Int) : F64 (overN s d e d' e') := by
  unfold overN; split
  · exact ⟨by decide⟩
  · exact F64_nearM _ _ _ _

end Go.Proofs.Yteikihidblcljaa

/- The walk of the reference's Horner. -/
namespace Go.Proofs.Yteikihidblcljaa
open Go.RowKit
set_option linter.unusedSimpArgs false
set_option linter.unusedVariables false

/-- A slice of words, told as a list. -/
structure Us (w : World) (a : Option Addr) (l : List Nat) : Prop where
  nil : a = none → l = []
  cell : ∀ b o v, a = some ⟨b, o, v⟩ → ∀ i, i < l.length → v = none ∧ w.cell? ⟨b, o + i, none⟩ = some (.int .u64 (l.getD i 0))
  wf : ∀ i, F64 (l.getD i 0)
  len : l.length ≤ 1000000000

theorem Us.below {w w' : World} {a : Option Addr} {l : List Nat} (h : Us w a l) (hb : Below w.heap.size w w') : Us w' a l :=
  ⟨h.nil, fun b o v e i hi => ⟨(h.cell b o v e i hi).1, by
    have hc := (h.cell b o v e i hi).2
    rw [hb.cell (p := ⟨b, o + i, none⟩) (World.block_lt_of_cell? _ _ hc), hc]⟩, h.wf, h.len⟩

theorem F64_fadd' (x y : Nat) : F64 (fadd x y) := F64_fadd x y


end Go.Proofs.Yteikihidblcljaa

/- The walk of tenorlaw1.Bits: a list's words. -/
namespace Go.Proofs.Yteikihidblcljaa
open Go.RowKit
set_option linter.unusedSimpArgs false
set_option linter.unusedVariables false

/-- Words as cells. -/
def wds (l : List Nat) : List Value := l.map fun (u : Nat) => Value.int .u64 (u : Int)

theorem us_of_owns {w : World} {base : Nat} {v : Value} {l : List Nat} (h : w.ownsRow base 39 1 v l.length (wds l)) (hf : ∀ i, F64 (l.getD i 0)) (hl : l.length ≤ 1000000000) :
    ∃ a c, v = .slice a l.length c ∧ Us w a l := by
  obtain ⟨_, ⟨rfl, h0⟩ | ⟨g, cap, cur, rfl, _, hb, _, _, _, ht⟩⟩ := h
  · have : l = [] := List.eq_nil_of_length_eq_zero h0
    subst this
    exact ⟨none, 0, rfl, ⟨fun _ => rfl, (fun _ _ _ e => by cases e), hf, by simp⟩⟩
  · refine ⟨_, _, rfl, ⟨(fun e => by cases e), fun b o u e i hi => ?_, hf, hl⟩⟩
    cases e
    refine ⟨rfl, ?_⟩
    have h1 : cur[i]? = some (.int .u64 (l.getD i 0)) := by
      have h2 : (cur.toList.take (l.length * 1))[i]? = (wds l)[i]? := by rw [ht]
      rw [List.getElem?_take_of_lt (by omega)] at h2
      rw [← Array.getElem?_toList, h2]
      unfold wds
      simp [List.getElem?_eq_getElem hi]
    simp [World.cell?, hb, h1]

theorem owns_block {w : World} {base : Nat} {e : TypeId} {size : Nat} {v : Value} {n : Nat} {xs : List Value} (h : w.ownsRow base e size v n xs) : ∀ k, v.ownBlock = some k → base ≤ k := by
  intro k hk
  obtain ⟨_, ⟨rfl, _⟩ | ⟨g, cap, cur, rfl, hg, _⟩⟩ := h
  · cases hk
  · simp [Value.ownBlock] at hk; omega

theorem wds_take (l : List Nat) (k : Nat) (h : k < l.length) : wds (l.take (k + 1)) = wds (l.take k) ++ [.int .u64 ((l.getD k 0 : Nat) : Int)] := by
  unfold wds
  rw [List.take_add_one, List.map_append, List.getElem?_eq_getElem h]
  simp [List.getElem?_eq_getElem h]

end Go.Proofs.Yteikihidblcljaa
