/- Plain: a float's sum, product, quotient, told by whole numbers. No program. -/
import Derived.Test.YtjhkjekbadbgnaaAr
import Derived.Test.YtjhkjekbadbgnaaNz
namespace Go.Proofs.Ytjhkjekbadbgnaa
set_option linter.unusedSimpArgs false

theorem read_fin (u : Nat) (h : F64 u) (hf : fin u = true) : dbl.read u = .number (ng u) (mnt u) (exq u) := by
  rw [read_eq u h]
  unfold mnt exq
  have : mg u < INF := by unfold fin at hf; simpa using hf
  by_cases h1 : mg u < 4503599627370496
  · rw [if_pos h1, if_pos h1, if_pos h1]
  · rw [if_neg h1, if_neg h1, if_neg h1, if_pos this]

theorem nearM_nearest {s : Bool} {d : Nat} {e : Int} (h : d ≠ 0) : nearM s d e false = dbl.nearest s d e := by
  unfold nearM; rw [if_neg h, madeN_word, nearest_rnd s d e h]

theorem nearest_scale (s : Bool) (d k : Nat) (e : Int) (h : d ≠ 0) : dbl.nearest s (d * 2 ^ k) (e - k) = dbl.nearest s d e := by
  have h2 : d * 2 ^ k ≠ 0 := Nat.mul_ne_zero h (by have := Nat.pow_pos (n := k) (show 0 < 2 by decide); omega)
  rw [nearest_rnd s _ _ h2, nearest_rnd s _ _ h, rnd_scale d k e h]

theorem exq_bd (u : Nat) (hf : fin u = true) : -1074 ≤ exq u ∧ exq u ≤ 971 := by
  have : mg u < INF := by unfold fin at hf; simpa using hf
  unfold INF at this
  unfold exq; split <;> omega
theorem mnt_lt (u : Nat) : mnt u < 9007199254740992 := by
  unfold mnt; split <;> omega
theorem mnt_zero (u : Nat) : mnt u = 0 ↔ mg u = 0 := by
  unfold mnt; split <;> omega
theorem exq_zero (u : Nat) (h : mnt u = 0) : exq u = -1074 := by
  rw [mnt_zero] at h
  unfold exq; rw [if_pos (by omega)]

def sg (s : Bool) (A : Nat) : Int := if s then -(A : Int) else A
theorem signed_sg (s : Bool) (m k : Nat) : Ieee.signed s m k = sg s (m * 2 ^ k) := by
  unfold Ieee.signed sg
  rw [Nat.shiftLeft_eq]

theorem sg_t (A : Nat) : sg true A = -(A : Int) := rfl
theorem sg_f (A : Nat) : sg false A = A := rfl

/-- What is added by digits is the sum. -/
theorem sum_sg (s : Bool) (A : Nat) (s' : Bool) (B : Nat) : (sg s A + sg s' B).natAbs = sumD s A s' B ∧ (sumD s A s' B ≠ 0 → decide (sg s A + sg s' B < 0) = sumS s A s' B) := by
  by_cases hP : s = s' ∨ A = 0 ∨ B = 0
  · have e1 : sumD s A s' B = A + B := by unfold sumD; rw [if_pos hP]
    have e2 : sumS s A s' B = ((if A = 0 then s' else s) && !(A + B == 0)) := by unfold sumS; rw [if_pos hP]
    rw [e1, e2]
    have e3 : A + B ≠ 0 → ((if A = 0 then s' else s) && !(A + B == 0)) = (if A = 0 then s' else s) := fun h => by
      rw [show (A + B == 0) = false by rw [beq_eq_false_iff_ne]; exact h]; simp
    by_cases h1 : A = 0
    · subst h1
      refine ⟨?_, fun h => ?_⟩
      · cases s <;> cases s' <;> simp only [sg_t, sg_f] <;> omega
      · rw [e3 h, if_pos rfl]
        cases s <;> cases s' <;> simp only [sg_t, sg_f] <;> first | exact decide_eq_true (by omega) | exact decide_eq_false (by omega)
    · by_cases h2 : B = 0
      · subst h2
        refine ⟨?_, fun h => ?_⟩
        · cases s <;> cases s' <;> simp only [sg_t, sg_f] <;> omega
        · rw [e3 h, if_neg h1]
          cases s <;> cases s' <;> simp only [sg_t, sg_f] <;> first | exact decide_eq_true (by omega) | exact decide_eq_false (by omega)
      · have h3 : s = s' := by rcases hP with h | h | h <;> first | exact h | exact absurd h h1 | exact absurd h h2
        subst h3
        refine ⟨?_, fun h => ?_⟩
        · cases s <;> simp only [sg_t, sg_f] <;> omega
        · rw [e3 h, if_neg h1]
          cases s <;> simp only [sg_t, sg_f] <;> first | exact decide_eq_true (by omega) | exact decide_eq_false (by omega)
  · have h3 : s ≠ s' := fun h => hP (.inl h)
    have e1 : sumD s A s' B = if A = B then 0 else if B < A then A - B else B - A := by unfold sumD; rw [if_neg hP]
    have e2 : sumS s A s' B = if A = B then false else if B < A then s else s' := by unfold sumS; rw [if_neg hP]
    rw [e1, e2]
    rcases Nat.lt_trichotomy A B with h4 | h4 | h4
    · rw [if_neg (by omega), if_neg (by omega), if_neg (by omega), if_neg (by omega)]
      refine ⟨?_, fun h => ?_⟩
      · cases s <;> cases s' <;> simp only [sg_t, sg_f] <;> first | exact absurd rfl h3 | omega
      · cases s <;> cases s' <;> simp only [sg_t, sg_f] <;> first | exact absurd rfl h3 | exact decide_eq_true (by omega) | exact decide_eq_false (by omega)
    · rw [if_pos h4, if_pos h4]
      refine ⟨?_, fun h => absurd rfl h⟩
      cases s <;> cases s' <;> simp only [sg_t, sg_f] <;> first | exact absurd rfl h3 | omega
    · rw [if_neg (by omega), if_pos h4, if_neg (by omega), if_pos h4]
      refine ⟨?_, fun h => ?_⟩
      · cases s <;> cases s' <;> simp only [sg_t, sg_f] <;> first | exact absurd rfl h3 | omega
      · cases s <;> cases s' <;> simp only [sg_t, sg_f] <;> first | exact absurd rfl h3 | exact decide_eq_true (by omega) | exact decide_eq_false (by omega)

/-- A sum of numbers. -/
theorem fadd_num (u v : Nat) (hu : F64 u) (hv : F64 v) (fu : fin u = true) (fv : fin v = true) :
    fadd u v = if sumD (ng u) (mnt u * 2 ^ (exq u - min (exq u) (exq v)).toNat) (ng v) (mnt v * 2 ^ (exq v - min (exq u) (exq v)).toNat) = 0 then (if ng u && ng v then 9223372036854775808 else 0)
      else dbl.nearest (sumS (ng u) (mnt u * 2 ^ (exq u - min (exq u) (exq v)).toNat) (ng v) (mnt v * 2 ^ (exq v - min (exq u) (exq v)).toNat)) (sumD (ng u) (mnt u * 2 ^ (exq u - min (exq u) (exq v)).toNat) (ng v) (mnt v * 2 ^ (exq v - min (exq u) (exq v)).toNat)) (min (exq u) (exq v)) := by
  unfold fadd Ieee.Format.add
  rw [read_fin u hu fu, read_fin v hv fv]
  simp only [Ieee.Datum.sum, Option.map_some, Option.getD_some]
  rw [write_num, signed_sg, signed_sg]
  obtain ⟨h1, h2⟩ := sum_sg (ng u) (mnt u * 2 ^ (exq u - min (exq u) (exq v)).toNat) (ng v) (mnt v * 2 ^ (exq v - min (exq u) (exq v)).toNat)
  rw [h1]
  by_cases h : sumD (ng u) (mnt u * 2 ^ (exq u - min (exq u) (exq v)).toNat) (ng v) (mnt v * 2 ^ (exq v - min (exq u) (exq v)).toNat) = 0
  · have h0 : (sg (ng u) (mnt u * 2 ^ (exq u - min (exq u) (exq v)).toNat) + sg (ng v) (mnt v * 2 ^ (exq v - min (exq u) (exq v)).toNat)) = 0 := by omega
    rw [if_pos h, h, if_pos h0, nearest_zero]
  · have h0 : ¬ (sg (ng u) (mnt u * 2 ^ (exq u - min (exq u) (exq v)).toNat) + sg (ng v) (mnt v * 2 ^ (exq v - min (exq u) (exq v)).toNat)) = 0 := by omega
    rw [if_neg h, if_neg h0, h2 h]

end Go.Proofs.Ytjhkjekbadbgnaa
