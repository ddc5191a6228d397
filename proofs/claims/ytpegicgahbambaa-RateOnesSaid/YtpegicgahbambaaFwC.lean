/- FnWhole's walk. -/
import Derived.Test.YtpegicgahbambaaM6
namespace Go.Proofs.Ytpegicgahbambaa
open Go.RowKit
set_option linter.unusedSimpArgs false
set_option linter.unusedVariables false

/-- Powers by squares, by what a product keeps: of exponents up to n. -/
theorem powF_inv (G : Nat → Nat → Prop) (n : Nat) (hG : ∀ a b u v, G a u → G b v → a + b ≤ n → G (a + b) (fmul u v)) :
    ∀ f m r b a c, m < 2 ^ f → G a r → G c b → a + c * m = n → G n (powF f m r b)
  | 0, m, r, b, a, c, hm, hr, hb, hn => by
    have : m < 1 := hm
    obtain rfl : m = 0 := by omega
    rw [Nat.mul_zero, Nat.add_zero] at hn
    subst hn; exact hr
  | f + 1, m, r, b, a, c, hm, hr, hb, hn => by
    unfold powF
    by_cases h0 : m = 0
    · rw [if_pos h0]; subst h0
      rw [Nat.mul_zero, Nat.add_zero] at hn
      subst hn; exact hr
    · rw [if_neg h0]
      have hf : m / 2 < 2 ^ f := by rw [Nat.pow_succ] at hm; omega
      have hc : c * m = c * (m % 2) + 2 * c * (m / 2) := by
        have := Nat.mod_add_div m 2
        calc c * m = c * (m % 2 + 2 * (m / 2)) := by rw [this]
          _ = c * (m % 2) + 2 * c * (m / 2) := by rw [Nat.mul_add, ← Nat.mul_assoc, Nat.mul_comm c 2]
      by_cases ho : m % 2 = 1
      · rw [if_pos ho]
        rw [ho, Nat.mul_one] at hc
        have hr' := hG a c r b hr hb (by omega)
        by_cases h2 : m / 2 = 0
        · rw [if_pos h2]
          rw [h2, Nat.mul_zero] at hc
          rw [h2, powF_zero]
          rw [show n = a + c by omega]; exact hr'
        · rw [if_neg h2]
          have h3 : 2 * c * 1 ≤ 2 * c * (m / 2) := Nat.mul_le_mul_left _ (by omega)
          have hb' := hG c c b b hb hb (by omega)
          rw [show c + c = 2 * c by omega] at hb'
          exact powF_inv G n hG f _ _ _ (a + c) (2 * c) hf hr' hb' (by omega)
      · rw [if_neg ho]
        rw [show m % 2 = 0 by omega, Nat.mul_zero, Nat.zero_add] at hc
        have h2 : m / 2 ≠ 0 := by omega
        rw [if_neg h2]
        have h3 : 2 * c * 1 ≤ 2 * c * (m / 2) := Nat.mul_le_mul_left _ (by omega)
        have hb' := hG c c b b hb hb (by omega)
        rw [show c + c = 2 * c by omega] at hb'
        exact powF_inv G n hG f _ _ _ a (2 * c) hf hr hb' (by omega)

theorem SV_inj {x y : Nat} (h : SV x = SV y) : rk x = rk y := by
  have a := SV_le (x := x) (y := y)
  have b := SV_le (x := y) (y := x)
  omega
theorem SV_of_rk {x y : Nat} (h : rk x = rk y) : SV x = SV y := by
  have a := SV_le (x := x) (y := y)
  have b := SV_le (x := y) (y := x)
  omega

/-- A product of whole numbers of at most 53 bits is exact. -/
theorem mul_whole (u v : Nat) (a b : Int) (hu : F64 u) (hv : F64 v) (fu : fin u = true) (fv : fin v = true) (ha : SV u = a * (U1 : Int)) (hb : SV v = b * (U1 : Int)) (h1 : -9007199254740992 ≤ a * b) (h2 : a * b ≤ 9007199254740992) :
    SV (fmul u v) = a * b * (U1 : Int) ∧ fin (fmul u v) = true := by
  obtain ⟨s, f, g, _⟩ := int_float (a * b) h1 h2
  have hr : rk (fmul u v) = rk (floatOfInt .f64 (a * b)) := by
    rw [(rk_fmul u v hu hv fu fv).1, ha, hb, ← rz_SV _ f, s, show a * (U1 : Int) * (b * (U1 : Int)) = a * b * (U1 : Int) * (U1 : Int) by rw [Int.mul_assoc, Int.mul_left_comm (U1 : Int) b, ← Int.mul_assoc, ← Int.mul_assoc], rz_U1]
  refine ⟨(SV_of_rk hr).trans s, ?_⟩
  rw [rk_fin] at f ⊢
  rw [hr]; exact f

theorem pow_bd_le {x : Int} {j n : Nat} (h : j ≤ n) (B : Nat) (hn : ∀ i, i ≤ n → (x ^ i).natAbs < B) : (x ^ j).natAbs < B := hn j h

/-- Powers of whole numbers are exact. -/
theorem pow_whole (x : Int) (n : Nat) (hx : x.natAbs < 536870912) (hn : ∀ i, i ≤ n → (x ^ i).natAbs < 8589934592) (hn2 : n ≤ 60) :
    SV (powF 64 n oneW (floatOfInt .f64 x)) = x ^ n * (U1 : Int) ∧ F64 (powF 64 n oneW (floatOfInt .f64 x)) ∧ fin (powF 64 n oneW (floatOfInt .f64 x)) = true := by
  obtain ⟨s, f, g, _⟩ := int_float x (by omega) (by omega)
  have h1 : SV oneW = 1 * (U1 : Int) := by decide +kernel
  by_cases h0 : n = 0
  · subst h0
    rw [powF_zero]
    exact ⟨by rw [Int.pow_zero]; exact h1, one_w.w, one_w.f⟩
  refine powF_inv (fun a u => SV u = x ^ a * (U1 : Int) ∧ F64 u ∧ fin u = true) n ?_ 64 n oneW (floatOfInt .f64 x) 0 1 (by omega) ⟨by rw [Int.pow_zero]; exact h1, one_w.w, one_w.f⟩ ⟨by rw [Int.pow_succ, Int.pow_zero, Int.one_mul]; exact s, g, f⟩ (by omega)
  rintro a b u v ⟨u1, u2, u3⟩ ⟨v1, v2, v3⟩ hab
  have hb := hn (a + b) hab
  rw [Int.pow_add] at hb
  obtain ⟨m1, m2⟩ := mul_whole u v _ _ u2 v2 u3 v3 u1 v1 (by omega) (by omega)
  exact ⟨by rw [Int.pow_add]; exact m1, F64_fmul _ _, m2⟩

/-- The word of 2^k. -/
def p2W (k : Int) : Nat := (k + 1022).toNat * 4503599627370496 + 4503599627370496
theorem p2_row (k : Int) (h1 : -1022 ≤ k) (h2 : k ≤ 1023) : RowW (p2W k) 4503599627370496 (k - 52) := by
  have := row_w 4503599627370496 (k + 1022).toNat (by decide) (by decide) (by omega)
  rw [show ((k + 1022).toNat : Int) - 1074 = k - 52 by omega] at this
  exact this
theorem p2_near (k : Int) (h1 : -1022 ≤ k) (h2 : k ≤ 1023) : dbl.nearest false 4503599627370496 (k - 52) = p2W k := by
  rw [nearest_row _ _ (by decide) (by decide) (by omega) (by omega)]
  unfold p2W
  rw [show k - 52 + 1074 = k + 1022 by omega]
theorem p2_mul (a b : Int) (a1 : -1022 ≤ a) (a2 : a ≤ 1023) (b1 : -1022 ≤ b) (b2 : b ≤ 1023) (c1 : -1022 ≤ a + b) (c2 : a + b ≤ 1023) : fmul (p2W a) (p2W b) = p2W (a + b) := by
  have ha := p2_row a a1 a2
  have hb := p2_row b b1 b2
  have hn := p2_near _ c1 c2
  obtain ⟨M, hM⟩ : ∃ M : Nat, 4503599627370496 = M := ⟨_, rfl⟩
  have hp : (2 : Nat) ^ 52 = M := by rw [← hM]
  have h0 : M ≠ 0 := by omega
  rw [hM] at ha hb hn
  clear hM
  unfold fmul Ieee.Format.mul
  rw [read_fin _ ha.w ha.f, read_fin _ hb.w hb.f, ha.m, ha.e, ha.g, hb.m, hb.e, hb.g]
  simp only [Ieee.Datum.product, Option.map_some, Option.getD_some, write_num, Bool.xor_false]
  have := nearest_scale false M 52 (a + b - 52) h0
  rw [hp] at this
  rw [show a - 52 + (b - 52) = a + b - 52 - (52 : Nat) by omega, this, hn]
theorem p2_div (k : Int) (h1 : 0 ≤ k) (h2 : k ≤ 1022) : fdiv oneW (p2W k) = p2W (-k) := by
  have ha := one_w
  have hb := p2_row k (by omega) (by omega)
  have hn := p2_near (-k) (by omega) (by omega)
  obtain ⟨M, hM⟩ : ∃ M : Nat, 4503599627370496 = M := ⟨_, rfl⟩
  have hpos : 0 < M := by omega
  have hq : M * 2 ^ 3 = 2 * 2 ^ 54 + ((0 : Nat) != 0 : Bool).toNat := by rw [← hM]; decide
  rw [hM] at ha hb hn
  clear hM
  unfold fdiv Ieee.Format.div
  rw [read_fin _ ha.w ha.f, read_fin _ hb.w hb.f, ha.m, ha.e, ha.g, hb.m, hb.e, hb.g]
  simp only [Ieee.Datum.quotient]
  rw [if_neg (by omega)]
  simp only [Option.map_some, Option.getD_some, write_num, Bool.xor_false]
  rw [show dbl.fractionBits + 2 + Nat.log2 M - Nat.log2 M = 54 from Nat.add_sub_cancel 54 _, Nat.shiftLeft_eq, Nat.mul_div_cancel_left _ hpos, Nat.mul_mod_right]
  have h9 := nearest_scale false M 3 (-k - 52) (by omega)
  rw [← hq, show (-52 : Int) - (k - 52) - ((54 : Nat) : Int) - 1 = -k - 52 - ((3 : Nat) : Int) by omega, h9, hn]

theorem p2_consts : p2W 0 = oneW ∧ p2W 1 = twoW := by decide

/-- Powers of 2 are exact. -/
theorem pow_two (k : Int) (h1 : -1022 ≤ k) (h2 : k ≤ 1023) : fpow twoW k = p2W k := by
  have key : ∀ n : Nat, n ≤ 1023 → powF 64 n oneW twoW = p2W n := fun n hn => by
    by_cases h0 : n = 0
    · subst h0; rw [powF_zero]; exact p2_consts.1.symm
    refine powF_inv (fun a u => u = p2W a) n ?_ 64 n oneW twoW 0 1 (Nat.lt_of_le_of_lt hn (by decide)) p2_consts.1.symm p2_consts.2.symm (by omega)
    rintro a b u v rfl rfl hab
    rw [p2_mul _ _ (by omega) (by omega) (by omega) (by omega) (by omega) (by omega)]
    congr 1
  unfold fpow
  rw [if_neg (by omega)]
  by_cases hk : k < 0
  · rw [if_pos hk, key _ (by omega), show ((k.natAbs : Nat) : Int) = -k by omega, p2_div _ (by omega) (by omega), Int.neg_neg]
  · rw [if_neg hk, key _ (by omega)]
    congr 1; omega

end Go.Proofs.Ytpegicgahbambaa
