/- Plain: a table's values doubled: slopes and points are doubled. No program. -/
import Derived.Test.YteikihidblcljaaWdC
namespace Go.Proofs.Yteikihidblcljaa
set_option linter.unusedSimpArgs false
set_option linter.unusedVariables false

/-- Sizes by units. -/
theorem rg_of_sv {x : Nat} (fx : F64 x) (lo hi : Nat) (h1 : 1 ≤ lo) (hh : 1 ≤ hi) (h : SV x = 0 ∨ (Q51 lo ≤ (SV x).natAbs ∧ (SV x).natAbs ≤ Q51 hi)) : Rg x lo hi := by
  rcases h with h | ⟨a, b⟩
  · refine ⟨fx, Or.inl ?_⟩
    have : VV (mg x) = 0 := by rw [← SV_abs, h]; rfl
    exact VV_inj (this.trans VV_zero.symm)
  · rw [SV_abs, ← VV_row lo h1] at a
    rw [SV_abs, ← VV_row hi hh] at b
    refine ⟨fx, Or.inr ⟨?_, ?_⟩⟩
    · exact Nat.le_of_not_lt fun hc => by have := VV_mono hc; omega
    · exact Nat.le_of_not_lt fun hc => by have := VV_mono hc; omega
/-- A full number is a multiple of its last place. -/
theorem Rg.dvd {x lo hi : Nat} (r : Rg x lo hi) (h1 : 1 ≤ lo) : ((2 ^ (lo - 1) : Nat) : Int) ∣ SV x := by
  rcases r.way with h | ⟨a, b⟩
  · rw [SV_mg0' x h]; exact Int.dvd_zero _
  · have hd : 2 ^ (lo - 1) ∣ VV (mg x) := by
      unfold VV
      rw [if_neg (by omega)]
      have h2 : lo ≤ mg x / 4503599627370496 := by rw [Nat.le_div_iff_mul_le (by decide)]; exact a
      exact Nat.dvd_trans (Nat.pow_dvd_pow 2 (by omega)) (Nat.dvd_mul_left _ _)
    have hi : ((2 ^ (lo - 1) : Nat) : Int) ∣ (VV (mg x) : Int) := Int.natCast_dvd_natCast.2 hd
    unfold SV
    split
    · exact Int.dvd_neg.2 hi
    · exact hi
theorem dvd_ge {z : Int} {k : Nat} (h : ((2 ^ k : Nat) : Int) ∣ z) : z = 0 ∨ 2 ^ k ≤ z.natAbs := by
  by_cases h0 : z = 0
  · exact Or.inl h0
  · have := Int.natAbs_dvd_natAbs.2 h
    rw [Int.natAbs_natCast] at this
    exact Or.inr (Nat.le_of_dvd (by omega) this)
theorem VV_at (T M : Nat) (h1 : 4503599627370496 ≤ M) (h2 : M < 9007199254740992) : VV (T * 4503599627370496 + M) = M * 2 ^ T := by
  have a : (T * 4503599627370496 + M) % 4503599627370496 = M - 4503599627370496 := by omega
  have b : (T * 4503599627370496 + M) / 4503599627370496 - 1 = T := by omega
  have c : 4503599627370496 + (M - 4503599627370496) = M := by omega
  unfold VV
  rw [if_neg (by omega), a, b, c]
theorem VV_low (M : Nat) (h2 : M < 9007199254740992) : VV M = M := by
  unfold VV
  by_cases hM2 : M < 4503599627370496
  · rw [if_pos hM2]
  · have a : M / 4503599627370496 - 1 = 0 := by omega
    rw [if_neg hM2, a, Nat.pow_zero, Nat.mul_one]
    omega
theorem neg_abs {z : Int} (h : z < 0) : -((z.natAbs : Nat) : Int) = z := by omega
theorem pos_abs {z : Int} (h : ¬ z < 0) : ((z.natAbs : Nat) : Int) = z := by omega
/-- What fits is not rounded. -/
theorem VV_exact (d : Nat) (e : Int) (h0 : d ≠ 0) (h1 : bl d ≤ 53) (he : -1074 ≤ e) (hn : -1022 ≤ (bl d : Int) + e) : VV (rnd d e false) = d * 2 ^ (e + 1074).toNat := by
  have c1 : (2 : Nat) ^ 52 = 4503599627370496 := by decide
  have c2 : (2 : Nat) ^ 53 = 9007199254740992 := by decide
  have hl : lsb d e = max ((bl d : Int) - 53 + e) (-1074) := rfl
  have le : lsb d e ≤ e := by omega
  have l0 : -1074 ≤ lsb d e := by omega
  unfold rnd
  rw [if_pos le]
  have hM : bl (d * 2 ^ (e - lsb d e).toNat) = bl d + (e - lsb d e).toNat := bl_shift h0 _
  have e2 : d * 2 ^ (e + 1074).toNat = d * 2 ^ (e - lsb d e).toNat * 2 ^ (lsb d e + 1074).toNat := by
    rw [Nat.mul_assoc, ← Nat.pow_add]
    congr 2
    omega
  rw [e2]
  have u1 := bl_lt (d * 2 ^ (e - lsb d e).toNat)
  by_cases hc : -1074 < lsb d e
  · have l1 : 2 ^ 52 ≤ d * 2 ^ (e - lsb d e).toNat := le_of_bl (by omega)
    have l2 : d * 2 ^ (e - lsb d e).toNat < 2 ^ 53 := Nat.lt_of_lt_of_le u1 (Nat.pow_le_pow_right (by decide) (by omega))
    obtain ⟨M, hM'⟩ : ∃ M, d * 2 ^ (e - lsb d e).toNat = M := ⟨_, rfl⟩
    obtain ⟨T, hT⟩ : ∃ T, (lsb d e + 1074).toNat = T := ⟨_, rfl⟩
    rw [hM'] at l1 l2
    rw [hM', hT]
    rw [c1] at l1
    rw [c2] at l2
    exact VV_at T M l1 l2
  · have hz : (lsb d e + 1074).toNat = 0 := by omega
    have l2 : d * 2 ^ (e - lsb d e).toNat < 2 ^ 53 := Nat.lt_of_lt_of_le u1 (Nat.pow_le_pow_right (by decide) (by omega))
    rw [hz]
    obtain ⟨M, hM'⟩ : ∃ M, d * 2 ^ (e - lsb d e).toNat = M := ⟨_, rfl⟩
    rw [hM'] at l2
    rw [hM']
    rw [c2] at l2
    rw [Nat.zero_mul, Nat.zero_add, Nat.pow_zero, Nat.mul_one]
    exact VV_low M l2
/-- A sum that is a whole number of places, few of them, is exact. -/
theorem rz_exact {x : Nat} {z : Int} {s : Nat} (hx : rk x = rz (-1074) z) (hd : ((2 ^ s : Nat) : Int) ∣ z) (hs : 52 ≤ s) (hs2 : s ≤ 1000) (hz : z.natAbs < 2 ^ (s + 53)) : SV x = z := by
  by_cases h0 : z = 0
  · subst h0
    rw [rz_zero _ (by decide)] at hx
    refine SV_mg0' x ?_
    have := (mg_of_rk hx).1
    simpa using this
  · have hn := Int.natAbs_dvd_natAbs.2 hd
    rw [Int.natAbs_natCast] at hn
    obtain ⟨m, hm⟩ := hn
    have m0 : m ≠ 0 := fun e => by rw [e, Nat.mul_zero] at hm; omega
    have mb : bl m ≤ 53 := bl_le (by
      rw [hm, Nat.pow_add] at hz
      exact Nat.lt_of_mul_lt_mul_left hz)
    have mp := bl_pos m0
    have key : rnd z.natAbs (-1074) false = rnd m ((s : Int) - 1074) false := by
      rw [hm, Nat.mul_comm]
      have := rnd_scale m s ((s : Int) - 1074) m0
      rw [show (s : Int) - 1074 - (s : Int) = -1074 by omega] at this
      exact this
    have hv := VV_exact m ((s : Int) - 1074) m0 mb (by omega) (by omega)
    rw [← key, show ((s : Int) - 1074 + 1074).toNat = s by omega, Nat.mul_comm, ← hm] at hv
    have r1 := rnd_row2 m ((s : Int) - 1074) false m0 (by omega)
    rw [← key] at r1
    have r2 : ((bl m : Int) + ((s : Int) - 1074) + 1023).toNat * 4503599627370496 ≤ 1100 * 4503599627370496 := Nat.mul_le_mul_right _ (by omega)
    have hx' : rk x = if z < 0 then -((min (rnd z.natAbs (-1074) false) 9218868437227405312 : Nat) : Int) else ((min (rnd z.natAbs (-1074) false) 9218868437227405312 : Nat) : Int) := by rw [hx]; rfl
    have hp : rnd z.natAbs (-1074) false ≠ 0 := fun e => by rw [e, VV_zero] at hv; omega
    obtain ⟨p1, p2⟩ := rk_min hx'
    have e3 := p2 hp
    have e1 : mg x = rnd z.natAbs (-1074) false := by
      rw [p1]
      refine Nat.min_eq_left (Nat.le_trans r1.2 (Nat.le_trans r2 (by decide)))
    unfold SV
    rw [e1, hv, e3]
    by_cases hc : z < 0
    · rw [decide_eq_true hc, if_pos rfl]; exact neg_abs hc
    · rw [decide_eq_false hc, if_neg (by decide)]; exact pos_abs hc

end Go.Proofs.Yteikihidblcljaa
