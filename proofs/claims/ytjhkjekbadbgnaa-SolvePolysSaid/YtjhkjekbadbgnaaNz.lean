/- Plain: Horner's scheme at -0 has the sign that it has at +0; a number less itself. No program. -/
import Derived.Test.YtjhkjekbadbgnaaOr
namespace Go.Proofs.Ytjhkjekbadbgnaa

theorem mg_rk (x : Nat) : (mg x : Int) = (rk x).natAbs := by
  unfold rk; split <;> omega
theorem fin_of {x : Nat} (h : nn x = false) (h2 : (rk x).natAbs ≠ 9218868437227405312) : fin x = true := by
  have := mg_rk x
  unfold nn at h; unfold fin INF at *; simp at *; omega
theorem fin_rk {x : Nat} (h : fin x = true) : (rk x).natAbs < 9218868437227405312 := by
  have := mg_rk x
  unfold fin INF at h; simp at h; omega

theorem read_zero (x : Nat) (h : F64 x) (hz : mg x = 0) : dbl.read x = .number (ng x) 0 (-1074) := by
  rw [read_eq x h, hz, if_pos (by decide)]

theorem nearest_zero (s : Bool) (e : Int) : dbl.nearest s 0 e = if s then 9223372036854775808 else 0 := by
  unfold Ieee.Format.nearest
  rw [if_pos rfl]
  unfold Ieee.Format.word
  rw [dbl_sw]

theorem write_num (s : Bool) (m : Nat) (e : Int) : dbl.write (.number s m e) = dbl.nearest s m e := rfl

theorem mg_0 : mg 0 = 0 := by unfold mg; rfl

theorem mg_zero (s : Bool) : mg (if s then 9223372036854775808 else 0) = 0 := by
  unfold mg; cases s <;> rfl

/-- A product with a zero: a NaN, or a zero. -/
theorem fmul_zero (q z : Nat) (hq : F64 q) (hz : F64 z) (h0 : mg z = 0) : (fin q = false ∧ fmul q z = NaNc) ∨ (fin q = true ∧ mg (fmul q z) = 0) := by
  unfold fmul Ieee.Format.mul
  rw [read_zero z hz h0]
  cases hf : fin q
  · left
    refine ⟨rfl, ?_⟩
    by_cases hn : nn q = true
    · obtain ⟨s, t, r⟩ := read_nan q hq hn
      rw [r]; rfl
    · have : mg q = INF := by unfold nn at hn; unfold fin at hf; simp at hn hf; omega
      rw [read_inf q hq this]; rfl
  · right
    refine ⟨rfl, ?_⟩
    obtain ⟨m, i, r, _, _⟩ := read_num q hq hf
    rw [r]
    simp only [Ieee.Datum.product, Option.map_some, Option.getD_some]
    rw [write_num, Nat.mul_zero, nearest_zero]
    exact mg_zero _

/-- To which zero a number is added makes nothing but the sign of a zero. -/
theorem fadd_zero (s t a : Nat) (hs : F64 s) (ht : F64 t) (h1 : mg s = 0) (h2 : mg t = 0) : nn (fadd s a) = nn (fadd t a) ∧ rk (fadd s a) = rk (fadd t a) := by
  unfold fadd Ieee.Format.add
  rw [read_zero s hs h1, read_zero t ht h2]
  cases hr : dbl.read a with
  | nan => exact ⟨rfl, rfl⟩
  | infinity => exact ⟨rfl, rfl⟩
  | number u n j =>
    simp only [Ieee.Datum.sum, Option.map_some, Option.getD_some]
    have e : ∀ b k, Ieee.signed b 0 k = 0 := by intro b k; unfold Ieee.signed; cases b <;> simp
    rw [e, e]
    rw [write_num, write_num, nearest_nn, nearest_nn]
    refine ⟨rfl, ?_⟩
    rw [Int.zero_add]
    by_cases h0 : Ieee.signed u n (j - min (-1074) j).toNat = 0
    · rw [if_pos h0, if_pos h0, h0]
      rw [show (0 : Int).natAbs = 0 from rfl, nearest_zero, nearest_zero]
      have : ∀ b : Bool, rk (if b then 9223372036854775808 else 0) = 0 := by
        intro b
        have := mg_rk (if b then 9223372036854775808 else 0)
        rw [mg_zero] at this
        omega
      rw [this, this]
    · rw [if_neg h0, if_neg h0]

theorem fadd_nan_l (a : Nat) : fadd NaNc a = NaNc := by
  unfold fadd
  have : dbl.add NaNc a = none := by
    unfold Ieee.Format.add
    obtain ⟨s, t, r⟩ := read_nan NaNc F64_NaNc nn_NaNc
    rw [r, sum_nan_l]; rfl
  rw [this]; rfl

/-- A number less itself is +0; an infinity less itself is a NaN. -/
theorem fsub_self (x : Nat) (h : F64 x) : fsub (cn x) (cn x) = if fin x then 0 else NaNc := by
  unfold fsub
  rw [sub_cn x x h h]
  unfold Ieee.Format.sub
  cases hf : fin x
  · by_cases hn : nn x = true
    · obtain ⟨s, t, r⟩ := read_nan x h hn
      rw [r]; rfl
    · have : mg x = INF := by unfold nn at hn; unfold fin at hf; simp at hn hf; omega
      rw [read_inf x h this]
      cases ng x <;> rfl
  · obtain ⟨m, i, r, _, _⟩ := read_num x h hf
    rw [r]
    simp only [Ieee.Datum.opposite, Ieee.Datum.sum, Option.map_some, Option.getD_some]
    have e : Ieee.signed (ng x) m (i - min i i).toNat + Ieee.signed (!ng x) m (i - min i i).toNat = 0 := by
      unfold Ieee.signed; cases ng x <;> simp <;> omega
    rw [e]
    rw [write_num, show (0 : Int).natAbs = 0 from rfl, nearest_zero]
    cases ng x <;> rfl

theorem fle (x y : Nat) (hx : F64 x) (hy : F64 y) (hn : nn x = false) (hm : nn y = false) : (FloatKind.f64.format.order x y == some .lt || FloatKind.f64.format.order x y == some .eq) = decide (rk x ≤ rk y) := by
  rw [flt x y hx hy, feq x y hx hy, hn, hm]
  rw [Bool.eq_iff_iff]; simp; omega

end Go.Proofs.Ytjhkjekbadbgnaa
