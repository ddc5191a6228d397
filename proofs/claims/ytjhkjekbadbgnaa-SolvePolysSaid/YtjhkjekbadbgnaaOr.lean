/- Plain: floats stand in the order of their ranks. No program. -/
import Derived.Test.YtjhkjekbadbgnaaFl
namespace Go.Proofs.Ytjhkjekbadbgnaa

/-- A size in units of 2^-1074. -/
def VV (r : Nat) : Nat := if r < 4503599627370496 then r else (4503599627370496 + r % 4503599627370496) * 2 ^ (r / 4503599627370496 - 1)

theorem VV_mono {r s : Nat} (h : r < s) : VV r < VV s := by
  unfold VV
  by_cases h1 : r < 4503599627370496
  · rw [if_pos h1]
    by_cases h2 : s < 4503599627370496
    · rw [if_pos h2]; exact h
    · rw [if_neg h2]
      have : 1 ≤ 2 ^ (s / 4503599627370496 - 1) := Nat.one_le_two_pow
      calc r < 4503599627370496 * 1 := by omega
        _ ≤ (4503599627370496 + s % 4503599627370496) * 2 ^ (s / 4503599627370496 - 1) := Nat.mul_le_mul (by omega) this
  · have h2 : ¬ s < 4503599627370496 := by omega
    rw [if_neg h1, if_neg h2]
    by_cases h3 : r / 4503599627370496 = s / 4503599627370496
    · rw [h3]
      exact Nat.mul_lt_mul_of_pos_right (by omega) (Nat.two_pow_pos _)
    · obtain ⟨d, hd⟩ : ∃ d, s / 4503599627370496 - 1 = (r / 4503599627370496 - 1) + 1 + d := ⟨s / 4503599627370496 - 1 - (r / 4503599627370496), by omega⟩
      rw [hd, Nat.pow_add, Nat.pow_succ]
      have hp : 0 < 2 ^ (r / 4503599627370496 - 1) := Nat.two_pow_pos _
      have hq : 1 ≤ 2 ^ d := Nat.one_le_two_pow
      generalize 2 ^ (r / 4503599627370496 - 1) = p at *
      generalize 2 ^ d = q at *
      calc (4503599627370496 + r % 4503599627370496) * p < (4503599627370496 * 2) * p := Nat.mul_lt_mul_of_pos_right (by omega) hp
        _ = 4503599627370496 * (p * 2 * 1) := by rw [Nat.mul_one, Nat.mul_assoc, Nat.mul_comm 2 p]
        _ ≤ (4503599627370496 + s % 4503599627370496) * (p * 2 * q) := Nat.mul_le_mul (by omega) (Nat.mul_le_mul_left _ hq)

theorem VV_lt {r s : Nat} : VV r < VV s ↔ r < s := by
  constructor
  · intro h
    rcases Nat.lt_trichotomy r s with h1 | h1 | h1
    · exact h1
    · subst h1; omega
    · have := VV_mono h1; omega
  · exact VV_mono

/-- The signed size in units of 2^-1074. -/
def SV (x : Nat) : Int := if ng x then -(VV (mg x) : Int) else VV (mg x)

theorem VV_zero : VV 0 = 0 := rfl
theorem VV_inj {r s : Nat} (h : VV r = VV s) : r = s := by
  rcases Nat.lt_trichotomy r s with h1 | h1 | h1
  · have := VV_mono h1; omega
  · exact h1
  · have := VV_mono h1; omega
theorem VV_pos {r : Nat} (h : 0 < r) : 0 < VV r := VV_mono (r := 0) h

theorem SV_lt {x y : Nat} : SV x < SV y ↔ rk x < rk y := by
  have h1 := VV_lt (r := mg x) (s := mg y)
  have h2 := VV_lt (r := mg y) (s := mg x)
  have h3 := VV_lt (r := 0) (s := mg x)
  have h4 := VV_lt (r := 0) (s := mg y)
  rw [VV_zero] at h3 h4
  unfold SV rk
  split <;> split <;> omega

theorem SV_cmp (x y : Nat) : compare (SV x) (SV y) = compare (rk x) (rk y) := by
  have h1 := SV_lt (x := x) (y := y)
  have h2 := SV_lt (x := y) (y := x)
  simp only [compare, compareOfLessAndEq]
  by_cases a : rk x < rk y
  · rw [if_pos a, if_pos (h1.2 a)]
  · rw [if_neg a, if_neg (fun h => a (h1.1 h))]
    by_cases b : rk y < rk x
    · rw [if_neg (by have := h2.2 b; omega), if_neg (by omega)]
    · have c : rk x = rk y := by omega
      have d : SV x = SV y := by
        have := mt h1.1 a
        have := mt h2.1 b
        omega
      rw [if_pos c, if_pos d]

/-- A number's reading: its size is mag * 2^place. -/
theorem read_num (x : Nat) (h : F64 x) (hf : fin x = true) : ∃ m i, dbl.read x = .number (ng x) m i ∧ -1074 ≤ i ∧ VV (mg x) = m * 2 ^ (i + 1074).toNat := by
  rw [read_eq x h]
  unfold fin INF at hf; simp at hf
  by_cases h1 : mg x < 4503599627370496
  · refine ⟨mg x, -1074, by rw [if_pos h1], by omega, ?_⟩
    unfold VV; rw [if_pos h1]; simp
  · refine ⟨_, _, by rw [if_neg h1, if_pos (by unfold INF; omega)], by omega, ?_⟩
    unfold VV; rw [if_neg h1]
    congr 2
    omega

theorem read_inf (x : Nat) (h : F64 x) (hf : mg x = INF) : dbl.read x = .infinity (ng x) := by
  rw [read_eq x h, if_neg (by rw [hf]; unfold INF; decide), if_neg (by omega), if_pos hf]

theorem signed_scale (s : Bool) (m : Nat) (i : Int) (b : Int) (hb : b ≤ i) (hb0 : -1074 ≤ b) :
    (Ieee.signed s m (i - b).toNat) * (2 : Int) ^ (b + 1074).toNat = if s then -((m * 2 ^ (i + 1074).toNat : Nat) : Int) else ((m * 2 ^ (i + 1074).toNat : Nat) : Int) := by
  unfold Ieee.signed
  have e : (i + 1074).toNat = (i - b).toNat + (b + 1074).toNat := by omega
  rw [Nat.shiftLeft_eq, e, Nat.pow_add]
  split
  · rw [Int.neg_mul]; congr 1; rw [← Nat.mul_assoc]; push_cast; rfl
  · rw [← Nat.mul_assoc]; push_cast; rfl

theorem cmp_l {a b : Int} (h : a < b) : compare a b = .lt := by simp only [compare, compareOfLessAndEq]; rw [if_pos h]
theorem cmp_e {a b : Int} (h : a = b) : compare a b = .eq := by simp only [compare, compareOfLessAndEq]; rw [if_neg (by omega), if_pos h]
theorem cmp_g {a b : Int} (h : b < a) : compare a b = .gt := by simp only [compare, compareOfLessAndEq]; rw [if_neg (by omega), if_neg (by omega)]

theorem cmp_scale (a b : Int) (k : Int) (hk : 0 < k) : compare (a * k) (b * k) = compare a b := by
  simp only [compare, compareOfLessAndEq]
  have h1 : a * k < b * k ↔ a < b := Int.mul_lt_mul_right hk
  have h2 : a * k = b * k ↔ a = b := by
    constructor
    · intro h; exact Int.eq_of_mul_eq_mul_right (by omega) h
    · intro h; rw [h]
  simp only [h1, h2]

/-- Floats stand in the order of their ranks. -/
theorem order_eq (x y : Nat) (hx : F64 x) (hy : F64 y) (hn : nn x = false) (hm : nn y = false) : dbl.order x y = some (compare (rk x) (rk y)) := by
  unfold Ieee.Format.order
  have hX : mg x ≤ INF := by unfold nn at hn; simp at hn; exact hn
  have hY : mg y ≤ INF := by unfold nn at hm; simp at hm; exact hm
  by_cases fx : fin x = true
  · obtain ⟨m, i, r1, i0, v1⟩ := read_num x hx fx
    rw [r1]
    unfold fin at fx; simp at fx
    by_cases fy : fin y = true
    · obtain ⟨n, j, r2, j0, v2⟩ := read_num y hy fy
      rw [r2]
      simp only [Ieee.Datum.order]
      have hb1 : min i j ≤ i := Int.min_le_left _ _
      have hb2 : min i j ≤ j := Int.min_le_right _ _
      have hb0 : -1074 ≤ min i j := by omega
      congr 1
      rw [← SV_cmp, ← cmp_scale _ _ ((2 : Int) ^ (min i j + 1074).toNat) (Int.pow_pos (by decide))]
      rw [signed_scale _ _ _ _ hb1 hb0, signed_scale _ _ _ _ hb2 hb0, ← v1, ← v2]
      rfl
    · unfold fin at fy; simp at fy
      have e : mg y = INF := by omega
      rw [read_inf y hy e]
      simp only [Ieee.Datum.order]
      unfold rk
      rw [e]
      congr 1
      symm
      cases ng y <;> cases ng x <;> simp <;> first | (apply cmp_l; omega) | (apply cmp_g; omega)
  · unfold fin at fx; simp at fx
    have e : mg x = INF := by omega
    rw [read_inf x hx e]
    by_cases fy : fin y = true
    · obtain ⟨n, j, r2, j0, v2⟩ := read_num y hy fy
      rw [r2]
      unfold fin at fy; simp at fy
      simp only [Ieee.Datum.order]
      unfold rk
      rw [e]
      congr 1
      symm
      cases ng y <;> cases ng x <;> simp <;> first | (apply cmp_l; omega) | (apply cmp_g; omega)
    · unfold fin at fy; simp at fy
      have e' : mg y = INF := by omega
      rw [read_inf y hy e']
      simp only [Ieee.Datum.order]
      unfold rk
      rw [e, e']
      have hp : (0 : Int) < INF := by unfold INF; decide
      congr 1
      cases ng y <;> cases ng x <;> simp <;> first | (symm; apply cmp_l; omega) | (symm; apply cmp_g; omega)

theorem order_nan (x y : Nat) (hx : F64 x) (hy : F64 y) (hn : nn x = true ∨ nn y = true) : dbl.order x y = none := by
  unfold Ieee.Format.order
  rcases hn with h | h
  · obtain ⟨s, t, r⟩ := read_nan x hx h
    rw [r]; cases dbl.read y <;> rfl
  · obtain ⟨s, t, r⟩ := read_nan y hy h
    rw [r]; cases dbl.read x <;> rfl

theorem flt (x y : Nat) (hx : F64 x) (hy : F64 y) : (FloatKind.f64.format.order x y == some .lt) = (!nn x && !nn y && decide (rk x < rk y)) := by
  show (dbl.order x y == some .lt) = _
  by_cases hn : nn x = true
  · rw [order_nan x y hx hy (Or.inl hn), hn]; rfl
  · by_cases hm : nn y = true
    · rw [order_nan x y hx hy (Or.inr hm), hm]; simp
    · have hn : nn x = false := by simpa using hn
      have hm : nn y = false := by simpa using hm
      rw [order_eq x y hx hy hn hm, hn, hm]
      simp only [compare, compareOfLessAndEq]
      by_cases a : rk x < rk y
      · simp [a]
      · by_cases b : rk x = rk y <;> simp [a, b]
theorem fgt (x y : Nat) (hx : F64 x) (hy : F64 y) : (FloatKind.f64.format.order x y == some .gt) = (!nn x && !nn y && decide (rk y < rk x)) := by
  show (dbl.order x y == some .gt) = _
  by_cases hn : nn x = true
  · rw [order_nan x y hx hy (Or.inl hn), hn]; rfl
  · by_cases hm : nn y = true
    · rw [order_nan x y hx hy (Or.inr hm), hm]; simp
    · have hn : nn x = false := by simpa using hn
      have hm : nn y = false := by simpa using hm
      rw [order_eq x y hx hy hn hm, hn, hm]
      simp only [compare, compareOfLessAndEq]
      by_cases a : rk x < rk y
      · simp [a]; omega
      · by_cases b : rk x = rk y
        · simp [b]
        · simp [a, b]; omega
theorem feq (x y : Nat) (hx : F64 x) (hy : F64 y) : (FloatKind.f64.format.order x y == some .eq) = (!nn x && !nn y && decide (rk x = rk y)) := by
  show (dbl.order x y == some .eq) = _
  by_cases hn : nn x = true
  · rw [order_nan x y hx hy (Or.inl hn), hn]; rfl
  · by_cases hm : nn y = true
    · rw [order_nan x y hx hy (Or.inr hm), hm]; simp
    · have hn : nn x = false := by simpa using hn
      have hm : nn y = false := by simpa using hm
      rw [order_eq x y hx hy hn hm, hn, hm]
      simp only [compare, compareOfLessAndEq]
      by_cases a : rk x < rk y
      · simp [a]; omega
      · by_cases b : rk x = rk y <;> simp [a, b]

end Go.Proofs.Ytjhkjekbadbgnaa
