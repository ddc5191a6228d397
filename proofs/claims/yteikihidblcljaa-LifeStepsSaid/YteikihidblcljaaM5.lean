/- Put together out of several texts: Jn Mo Fi Fj Ep Eq Er Es Lp. -/
import Derived.Test.YteikihidblcljaaM4
import Derived.Test.YteikihidblcljaaM1
import Derived.Laws.FloatArith

/- Plain: what Join does by whole numbers: digits are dropped first, then scaled. No program. -/
namespace Go.Proofs.Yteikihidblcljaa

/-- So many digits are dropped. -/
def jQ (u : Nat) (e : Int) : Int := max (max ((bl u : Int) - 53) (-1074 - e)) 0
/-- The digits that are left. -/
def jH (u : Nat) (e : Int) : Nat := if jQ u e = 0 then u else rh u (jQ u e).toNat false

theorem rh_le (d k : Nat) : rh d k false ≤ d / 2 ^ k + 1 := by unfold rh; split <;> omega
theorem le_rh (d k : Nat) : d / 2 ^ k ≤ rh d k false := by unfold rh; omega

theorem jQ_lsb (u : Nat) (e : Int) (h : jQ u e ≠ 0) : lsb u e = e + jQ u e ∧ 0 < jQ u e := by
  unfold jQ at *; unfold lsb; omega
theorem jQ_zero (u : Nat) (e : Int) (h : jQ u e = 0) : bl u ≤ 53 ∧ -1074 ≤ e := by
  unfold jQ at h; omega

theorem jH_le (u : Nat) (e : Int) : jH u e ≤ 9007199254740992 := by
  unfold jH
  split
  · rename_i h
    have h1 := (jQ_zero u e h).1
    have h2 := bl_lt u
    have h3 : 2 ^ bl u ≤ 2 ^ 53 := Nat.pow_le_pow_right (by decide) h1
    have h4 : (2 : Nat) ^ 53 = 9007199254740992 := by decide
    omega
  · rename_i h
    have h1 := jQ_lsb u e h
    have h2 := lsb_down u e
    rw [h1.1, show e + jQ u e - e = jQ u e by omega] at h2
    have := rh_le u (jQ u e).toNat
    omega

/-- Where the place kept is above the least, the digits fill the row. -/
theorem jH_ge (u : Nat) (e : Int) (h : jQ u e ≠ 0) (h0 : u ≠ 0) (hp : -1074 < e + jQ u e) : 4503599627370496 ≤ jH u e := by
  have h1 : jQ u e = (bl u : Int) - 53 := by unfold jQ at *; omega
  unfold jH
  rw [if_neg h]
  refine Nat.le_trans ?_ (le_rh _ _)
  rw [Nat.le_div_iff_mul_le (Nat.pow_pos (by decide)), show 4503599627370496 = 2 ^ 52 by decide, ← Nat.pow_add]
  have h2 := jQ_lsb u e h
  exact le_of_bl (by omega)

theorem rnd_row (M : Nat) (E : Int) (h1 : 4503599627370496 ≤ M) (h2 : M < 9007199254740992) (hE : -1074 ≤ E) : rnd M E false = (E + 1074).toNat * 4503599627370496 + M := by
  have hb : bl M = 53 := bl_eq (by rw [show 2 ^ 52 = 4503599627370496 by decide]; exact h1) (by rw [show 2 ^ (52 + 1) = 9007199254740992 by decide]; exact h2)
  have hl : lsb M E = E := by unfold lsb; rw [hb]; omega
  unfold rnd
  rw [hl, if_pos (Int.le_refl _), Int.sub_self]
  simp

theorem rnd_low (M : Nat) (h2 : M < 9007199254740992) : rnd M (-1074) false = M := by
  have hb : bl M ≤ 53 := bl_le (by rw [show 2 ^ 53 = 9007199254740992 by decide]; exact h2)
  have hl : lsb M (-1074) = -1074 := by unfold lsb; omega
  unfold rnd
  rw [hl, if_pos (by omega)]
  simp

theorem rnd_top (E : Int) (hE : -1074 ≤ E) : rnd 9007199254740992 E false = (E + 1074).toNat * 4503599627370496 + 9007199254740992 := by
  have := rnd_scale 4503599627370496 1 (E + 1) (by decide)
  rw [show E + 1 - ((1 : Nat) : Int) = E by omega, show 4503599627370496 * 2 ^ 1 = 9007199254740992 by decide] at this
  rw [this, rnd_row _ _ (by omega) (by omega) (by omega), show (E + 1 + 1074).toNat = (E + 1074).toNat + 1 by omega]
  omega

/-- Dropping first makes nothing. -/
theorem join_near (u : Nat) (e : Int) (h0 : u ≠ 0) : rnd u e false = if jH u e = 0 then 0 else rnd (jH u e) (e + jQ u e) false := by
  by_cases hq : jQ u e = 0
  · have : jH u e = u := by unfold jH; rw [if_pos hq]
    rw [this, if_neg h0, hq, Int.add_zero]
  · obtain ⟨h1, hq0⟩ := jQ_lsb u e hq
    have hh : jH u e = rh u (jQ u e).toNat false := by unfold jH; rw [if_neg hq]
    have hr : rnd u e false = (e + jQ u e + 1074).toNat * 4503599627370496 + jH u e := by
      unfold rnd
      rw [h1, if_neg (by omega), hh, show e + jQ u e - e = jQ u e by omega]
    have hE : -1074 ≤ e + jQ u e := by unfold jQ at *; omega
    have hg := jH_ge u e hq h0
    have hl := jH_le u e
    rw [hr]
    generalize jH u e = H at *
    generalize hE' : e + jQ u e = E at *
    by_cases hz : H = 0
    · rw [if_pos hz, hz]
      have : E = -1074 := by
        refine Decidable.byContradiction fun hc => ?_
        have := hg (by omega); omega
      rw [this]; rfl
    · rw [if_neg hz]
      by_cases ht : H = 9007199254740992
      · rw [ht, rnd_top E hE]
      · by_cases hb : E = -1074
        · rw [hb, rnd_low H (by omega)]; simp
        · rw [rnd_row H E (hg (by omega)) (by omega) hE]

/-- The place of the first digit, and the digits moved up to fill the row. -/
def ldL (h : Nat) : Nat := bl h - 1
def ldM (h : Nat) : Nat := if h = 9007199254740992 then 4503599627370496 else h * 2 ^ (52 - ldL h)

theorem ldL_le (h : Nat) (h2 : h ≤ 9007199254740992) : ldL h ≤ 53 := by
  unfold ldL
  have : bl h ≤ 54 := bl_le (by rw [show 2 ^ 54 = 18014398509481984 by decide]; omega)
  omega

theorem ldM_bd (h : Nat) (h1 : h ≠ 0) (h2 : h ≤ 9007199254740992) : 4503599627370496 ≤ ldM h ∧ ldM h < 9007199254740992 := by
  unfold ldM
  split
  · omega
  · rename_i hn
    have hb : bl h ≤ 53 := bl_le (by rw [show 2 ^ 53 = 9007199254740992 by decide]; omega)
    have hp := bl_pos h1
    have hs := bl_shift h1 (52 - ldL h)
    unfold ldL at *
    have e1 : bl (h * 2 ^ (52 - (bl h - 1))) = 53 := by rw [hs]; omega
    have a := bl_lt (h * 2 ^ (52 - (bl h - 1)))
    have b := le_of_bl (x := h * 2 ^ (52 - (bl h - 1))) (n := 52) (by omega)
    rw [e1] at a
    have c1 : (2 : Nat) ^ 52 = 4503599627370496 := by decide
    have c2 : (2 : Nat) ^ 53 = 9007199254740992 := by decide
    omega

theorem nearest_ld (s : Bool) (h : Nat) (E : Int) (h1 : h ≠ 0) (h2 : h ≤ 9007199254740992) : dbl.nearest s h E = dbl.nearest s (ldM h) (E + ldL h - 52) := by
  unfold ldM
  split
  · rename_i ht
    subst ht
    have := nearest_scale s 4503599627370496 1 (E + 1) (by decide)
    rw [show E + 1 - ((1 : Nat) : Int) = E by omega, show 4503599627370496 * 2 ^ 1 = 9007199254740992 by decide] at this
    rw [this, show ldL 9007199254740992 = 53 by decide]
    congr 1
    omega
  · rename_i hn
    have hb : bl h ≤ 53 := bl_le (by rw [show 2 ^ 53 = 9007199254740992 by decide]; omega)
    have := nearest_scale s h (52 - ldL h) E h1
    rw [← this]
    congr 1
    unfold ldL
    omega

theorem word_f (r : Nat) : dbl.word false r = r := rfl
/-- The word of a row of digits, where it is a normal number. -/
theorem nearest_row (M : Nat) (E : Int) (h1 : 4503599627370496 ≤ M) (h2 : M < 9007199254740992) (hE : -1074 ≤ E) (hE2 : E ≤ 971) : dbl.nearest false M E = (E + 1074).toNat * 4503599627370496 + M := by
  rw [nearest_rnd _ _ _ (by omega), rnd_row M E h1 h2 hE, word_f]
  omega
theorem nearest_over (M : Nat) (E : Int) (h1 : 4503599627370496 ≤ M) (h2 : M < 9007199254740992) (hE2 : 972 ≤ E) : dbl.nearest false M E = 9218868437227405312 := by
  rw [nearest_rnd _ _ _ (by omega), rnd_row M E h1 h2 (by omega), word_f]
  omega

theorem mg_val (x : Nat) : mg x = x % 9223372036854775808 := by unfold mg; rfl
theorem mg_small (x : Nat) (h : x < 9223372036854775808) : mg x = x := by rw [mg_val]; omega
theorem ng_small (x : Nat) (h : x < 9223372036854775808) : ng x = false := by unfold ng; simp; omega
theorem row_parts (M T : Nat) (h1 : 4503599627370496 ≤ M) (h2 : M < 9007199254740992) (hT : T ≤ 2045) :
    mnt (T * 4503599627370496 + M) = M ∧ exq (T * 4503599627370496 + M) = (T : Int) - 1074 ∧ fin (T * 4503599627370496 + M) = true ∧ ng (T * 4503599627370496 + M) = false ∧ F64 (T * 4503599627370496 + M) := by
  have hm : mg (T * 4503599627370496 + M) = T * 4503599627370496 + M := mg_small _ (by omega)
  refine ⟨?_, ?_, ?_, ng_small _ (by omega), ⟨by omega⟩⟩
  · unfold mnt; rw [hm, if_neg (by omega)]; omega
  · unfold exq; rw [hm, if_neg (by omega)]; omega
  · unfold fin INF; rw [hm]; simp; omega

/-- 2^-53 times a row, where the row lies too deep. -/
theorem ld_deep (M : Nat) (T : Nat) (h1 : 4503599627370496 ≤ M) (h2 : M < 9007199254740992) (hT : T ≤ 2045) (E : Int) (hE : E = (T : Int) - 1127) :
    fmul 4368491638549381120 (T * 4503599627370496 + M) = dbl.nearest false M E := by
  obtain ⟨a, b, c, d, f⟩ := row_parts M T h1 h2 hT
  obtain ⟨a', b', c', d', f'⟩ := row_parts 4503599627370496 969 (by decide) (by decide) (by decide)
  rw [show 969 * 4503599627370496 + 4503599627370496 = 4368491638549381120 by decide] at a' b' c' d' f'
  rw [fmul_ff _ _ f' f c' c false, a, a']
  have hp : 4503599627370496 * M ≠ 0 := by omega
  rw [if_neg hp]
  unfold exr
  rw [a, a', if_neg (by decide), if_neg (by omega), b, b']
  rw [show sgw 4368491638549381120 (T * 4503599627370496 + M) = 0 by unfold sgw; rw [d, d']; rfl, Nat.zero_add]
  rw [nearM_nearest hp, Nat.mul_comm, show (4503599627370496 : Nat) = 2 ^ 52 by decide]
  have := nearest_scale false M 52 E (by omega)
  rw [show ((969 : Nat) : Int) - 1074 + ((T : Int) - 1074) = E - (52 : Nat) by omega, this]
  refine mg_small _ ?_
  rw [nearest_rnd _ _ _ (by omega), word_f]
  omega

theorem ld_deep' (M : Nat) (T : Nat) (h1 : 4503599627370496 ≤ M) (h2 : M < 9007199254740992) (hT : T ≤ 2045) (E : Int) (hE : E = (T : Int) - 1127) :
    dbl.mul 4368491638549381120 (T * 4503599627370496 + M) = some (dbl.nearest false M E) := by
  have h := ld_deep M T h1 h2 hT E hE
  unfold fmul at h
  obtain ⟨a, b, c, d, f⟩ := row_parts M T h1 h2 hT
  obtain ⟨a', b', c', d', f'⟩ := row_parts 4503599627370496 969 (by decide) (by decide) (by decide)
  rw [show 969 * 4503599627370496 + 4503599627370496 = 4368491638549381120 by decide] at a' b' c' d' f'
  have : ∃ r, dbl.mul 4368491638549381120 (T * 4503599627370496 + M) = some r := by
    unfold Ieee.Format.mul
    rw [read_fin _ f c, read_fin _ f' c']
    exact ⟨_, rfl⟩
  obtain ⟨r, hr⟩ := this
  rw [hr] at h ⊢
  rw [← h]; rfl

end Go.Proofs.Yteikihidblcljaa

/- Plain: rounding goes with what is rounded; sums, products and quotients of numbers are whole numbers, rounded. No program. -/
namespace Go.Proofs.Yteikihidblcljaa
set_option linter.unusedVariables false

theorem rh_ways (u k : Nat) :
    (2 ^ k < u % 2 ^ (k + 1) → rh u (k + 1) false = u / 2 ^ (k + 1) + 1) ∧
    (u % 2 ^ (k + 1) = 2 ^ k → u / 2 ^ (k + 1) % 2 = 1 → rh u (k + 1) false = u / 2 ^ (k + 1) + 1) ∧
    (u % 2 ^ (k + 1) = 2 ^ k → u / 2 ^ (k + 1) % 2 = 0 → rh u (k + 1) false = u / 2 ^ (k + 1)) ∧
    (u % 2 ^ (k + 1) < 2 ^ k → rh u (k + 1) false = u / 2 ^ (k + 1)) := by
  have e1 : u % 2 ^ (k + 1) = u % 2 ^ k + 2 ^ k * (u / 2 ^ k % 2) := by rw [Nat.pow_succ, Nat.mod_mul]
  have l : u % 2 ^ k < 2 ^ k := Nat.mod_lt _ (Nat.pow_pos (by decide))
  unfold rh
  rw [e1, Nat.add_sub_cancel]
  generalize u / 2 ^ (k + 1) = Q
  generalize u % 2 ^ k = r at *
  generalize 2 ^ k = S at *
  rcases (by omega : u / S % 2 = 0 ∨ u / S % 2 = 1) with h | h <;> rw [h]
  · rw [if_neg (by omega)]
    refine ⟨fun h => by omega, fun h => by omega, fun h => by omega, fun _ => rfl⟩
  · refine ⟨fun h => ?_, fun h h2 => ?_, fun h h2 => ?_, fun h => by omega⟩
    · rw [if_pos ⟨rfl, .inl (by omega)⟩]
    · rw [if_pos ⟨rfl, .inr (.inr h2)⟩]
    · rw [if_neg (by simp; omega)]; rfl

theorem rh_mono {d d' k : Nat} (hk : 0 < k) (h : d ≤ d') : rh d k false ≤ rh d' k false := by
  obtain ⟨j, rfl⟩ : ∃ j, k = j + 1 := ⟨k - 1, by omega⟩
  have h1 := rh_le d (j + 1)
  have h2 := le_rh d (j + 1)
  have h3 := le_rh d' (j + 1)
  have h4 := rh_le d' (j + 1)
  have hq : d / 2 ^ (j + 1) ≤ d' / 2 ^ (j + 1) := Nat.div_le_div_right h
  rcases Nat.lt_or_ge (d / 2 ^ (j + 1)) (d' / 2 ^ (j + 1)) with hlt | hge
  · omega
  · have he : d / 2 ^ (j + 1) = d' / 2 ^ (j + 1) := by omega
    have W := rh_ways d j
    have W' := rh_ways d' j
    have a := Nat.div_add_mod d (2 ^ (j + 1))
    have a' := Nat.div_add_mod d' (2 ^ (j + 1))
    rw [he] at a W h1 h2
    generalize rh d (j + 1) false = Z at *
    generalize rh d' (j + 1) false = Z' at *
    generalize d' / 2 ^ (j + 1) = Q at *
    generalize 2 ^ (j + 1) * Q = P at *
    have hR : d % 2 ^ (j + 1) ≤ d' % 2 ^ (j + 1) := by omega
    generalize d % 2 ^ (j + 1) = R at *
    generalize d' % 2 ^ (j + 1) = R' at *
    generalize 2 ^ j = S at *
    obtain ⟨w1, w2, w3, w4⟩ := W
    obtain ⟨v1, v2, v3, v4⟩ := W'
    rcases (by omega : R < S ∨ R = S ∨ S < R) with hr | hr | hr
    · have := w4 hr; omega
    · rcases (by omega : R' = S ∨ S < R') with hr' | hr'
      · rcases (by omega : Q % 2 = 0 ∨ Q % 2 = 1) with ho | ho
        · have := w3 hr ho; omega
        · have := v2 hr' ho; omega
      · have := v1 hr'; omega
    · have := v1 (by omega); omega

/-- What is kept fills the row, but at the least place. -/
theorem rnd_form (d : Nat) (e : Int) (h : d ≠ 0) : ∃ K, rnd d e false = (lsb d e + 1074).toNat * 4503599627370496 + K ∧ K ≤ 9007199254740992 ∧ (-1074 < lsb d e → 4503599627370496 ≤ K) := by
  have c1 : (2 : Nat) ^ 52 = 4503599627370496 := by decide
  have c2 : (2 : Nat) ^ 53 = 9007199254740992 := by decide
  unfold rnd
  by_cases hc : lsb d e ≤ e
  · rw [if_pos hc]
    refine ⟨_, rfl, Nat.le_of_lt (by have := bl_shift h (e - lsb d e).toNat; have h2 := bl_lt (d * 2 ^ (e - lsb d e).toNat); have h3 : 2 ^ bl (d * 2 ^ (e - lsb d e).toNat) ≤ 2 ^ 53 := Nat.pow_le_pow_right (by decide) (by unfold lsb at *; omega); omega), fun hl => ?_⟩
    rw [← c1]
    refine le_of_bl ?_
    rw [bl_shift h]
    unfold lsb at *; omega
  · rw [if_neg hc]
    refine ⟨_, rfl, ?_, fun hl => ?_⟩
    · have h1 := rh_le d (lsb d e - e).toNat
      have h2 : d / 2 ^ (lsb d e - e).toNat < 9007199254740992 := by
        rw [Nat.div_lt_iff_lt_mul (Nat.pow_pos (by decide)), ← c2, ← Nat.pow_add]
        refine Nat.lt_of_lt_of_le (bl_lt d) (Nat.pow_le_pow_right (by decide) ?_)
        unfold lsb; omega
      omega
    · refine Nat.le_trans ?_ (le_rh _ _)
      rw [Nat.le_div_iff_mul_le (Nat.pow_pos (by decide)), ← c1, ← Nat.pow_add]
      refine le_of_bl ?_
      have := bl_pos h
      unfold lsb at *; omega

theorem rnd_zero (e : Int) (h : e ≤ -1074) : rnd 0 e false = 0 := by
  have hl : lsb 0 e = -1074 := by unfold lsb; rw [show bl 0 = 0 from rfl]; omega
  unfold rnd
  rw [hl]
  split
  · simp
  · rw [show rh 0 (-1074 - e).toNat false = 0 by unfold rh; simp]; rfl

theorem bl_mono {d d' : Nat} (h : d ≤ d') : bl d ≤ bl d' := bl_le (Nat.lt_of_le_of_lt h (bl_lt d'))

theorem rnd_mono {d d' : Nat} (e : Int) (he : e ≤ -1074) (h : d ≤ d') : rnd d e false ≤ rnd d' e false := by
  by_cases h0 : d = 0
  · rw [h0, rnd_zero e he]; omega
  · have h0' : d' ≠ 0 := by omega
    have hl : lsb d e ≤ lsb d' e := by have := bl_mono h; unfold lsb; omega
    rcases (by omega : lsb d e < lsb d' e ∨ lsb d e = lsb d' e) with hlt | heq
    · obtain ⟨K, a1, a2, a3⟩ := rnd_form d e h0
      obtain ⟨K', b1, b2, b3⟩ := rnd_form d' e h0'
      have hg : -1074 ≤ lsb d e := by unfold lsb; omega
      have := b3 (by omega)
      rw [a1, b1]
      omega
    · unfold rnd
      rw [heq]
      refine Nat.add_le_add_left ?_ _
      split
      · exact Nat.mul_le_mul_right _ h
      · exact rh_mono (by omega) h

/-- A whole number of units of 2^e, rounded: its rank. -/
def rz (e : Int) (z : Int) : Int := if z < 0 then -((min (rnd z.natAbs e false) 9218868437227405312 : Nat) : Int) else ((min (rnd z.natAbs e false) 9218868437227405312 : Nat) : Int)

theorem rz_mono {z z' : Int} (e : Int) (he : e ≤ -1074) (h : z ≤ z') : rz e z ≤ rz e z' := by
  unfold rz
  by_cases h1 : z < 0
  · rw [if_pos h1]
    by_cases h2 : z' < 0
    · rw [if_pos h2]
      have := rnd_mono (d := z'.natAbs) (d' := z.natAbs) e he (by omega)
      omega
    · rw [if_neg h2]; omega
  · rw [if_neg h1, if_neg (by omega)]
    have := rnd_mono (d := z.natAbs) (d' := z'.natAbs) e he (by omega)
    omega
theorem rz_zero (e : Int) (h : e ≤ -1074) : rz e 0 = 0 := by
  unfold rz; rw [if_neg (by omega)]
  have := rnd_zero e h
  rw [show (0 : Int).natAbs = 0 from rfl, this]; rfl
theorem rz_neg (e : Int) (he : e ≤ -1074) (z : Int) : rz e (-z) = -rz e z := by
  rcases (by omega : z < 0 ∨ z = 0 ∨ 0 < z) with h | h | h
  · unfold rz; rw [if_neg (by omega), if_pos h, show (-z).natAbs = z.natAbs by omega]; omega
  · subst h; rw [show -(0 : Int) = 0 from rfl, rz_zero e he]; rfl
  · unfold rz; rw [if_pos (by omega), if_neg (by omega), show (-z).natAbs = z.natAbs by omega]
theorem rz_bd (e z : Int) : -9218868437227405312 ≤ rz e z ∧ rz e z ≤ 9218868437227405312 := by unfold rz; split <;> omega

theorem VV_mnt (x : Nat) (hx : F64 x) (h : fin x = true) : VV (mg x) = mnt x * 2 ^ (exq x + 1074).toNat := by
  obtain ⟨m, i, h1, h2, h3⟩ := read_num x hx h
  rw [read_fin x hx h] at h1
  injection h1 with _ a b
  rw [h3, a, b]

/-- The signed size, in units of 2^-1074. -/
theorem SV_sg (x : Nat) : SV x = sg (ng x) (VV (mg x)) := by unfold SV sg; rfl
theorem sg_scale (s : Bool) (m k : Nat) : sg s (m * 2 ^ k) = sg s m * ((2 ^ k : Nat) : Int) := by
  unfold sg; cases s
  · simp
  · simp only [if_true]; rw [Int.neg_mul]; congr 1

theorem lp (e : Int) : -1074 ≤ e → ((e + 1074).toNat : Int) = e + 1074 := by omega

theorem rk_word (s : Bool) (r : Nat) (h : r ≤ 9218868437227405312) : rk (dbl.word s r) = (if s then -(r : Int) else r) ∧ nn (dbl.word s r) = false ∧ mg (dbl.word s r) = r ∧ ng (dbl.word s r) = s := by
  have hm : mg (dbl.word s r) = r := by
    rw [mg_val]; unfold Ieee.Format.word; rw [dbl_sw]; split <;> omega
  have hn : ng (dbl.word s r) = s := by
    unfold ng Ieee.Format.word; rw [dbl_sw]; cases s <;> simp <;> omega
  refine ⟨?_, ?_, hm, hn⟩
  · unfold rk; rw [hm, hn]
  · unfold nn INF; rw [hm]; simp; omega

/-- Of the nearest float: its rank. -/
theorem rk_nearest (s : Bool) (m : Nat) (e E : Int) (h0 : m ≠ 0) (hE : E ≤ e) :
    rk (dbl.nearest s m e) = rz E (sg s (m * 2 ^ (e - E).toNat)) := by
  rw [nearest_rnd _ _ _ h0, (rk_word s _ (Nat.min_le_right _ _)).1]
  have hs := rnd_scale m (e - E).toNat e h0
  rw [show e - ((e - E).toNat : Int) = E by omega] at hs
  rw [← hs]
  have hp := Nat.pow_pos (n := (e - E).toNat) (show 0 < 2 by decide)
  have hM : m * 2 ^ (e - E).toNat ≠ 0 := Nat.mul_ne_zero h0 (by omega)
  generalize m * 2 ^ (e - E).toNat = M at *
  unfold rz sg
  cases s
  · simp only [Bool.false_eq_true, if_false]; rw [if_neg (by omega), Int.natAbs_natCast]
  · simp only [if_true]; rw [if_pos (by omega), show (-(M : Int)).natAbs = M by omega]

theorem exq_ge (x : Nat) : -1074 ≤ exq x := by unfold exq; split <;> omega

/-- A sum of numbers is the sum, rounded. -/
theorem rk_fadd (u v : Nat) (hu : F64 u) (hv : F64 v) (fu : fin u = true) (fv : fin v = true) :
    rk (fadd u v) = rz (-1074) (SV u + SV v) ∧ nn (fadd u v) = false := by
  have key : ∃ s m, (sg s (m * 2 ^ (min (exq u) (exq v) + 1074).toNat) = SV u + SV v) ∧ fadd u v = dbl.nearest s m (min (exq u) (exq v)) := by
    unfold fadd Ieee.Format.add
    rw [read_fin u hu fu, read_fin v hv fv]
    simp only [Ieee.Datum.sum, Option.map_some, Option.getD_some]
    rw [write_num]
    refine ⟨_, _, ?_, rfl⟩
    have e1 := exq_ge u
    have e2 := exq_ge v
    have a := signed_scale (ng u) (mnt u) (exq u) (min (exq u) (exq v)) (by omega) (by omega)
    have b := signed_scale (ng v) (mnt v) (exq v) (min (exq u) (exq v)) (by omega) (by omega)
    rw [← VV_mnt u hu fu] at a
    rw [← VV_mnt v hv fv] at b
    have a' : Ieee.signed (ng u) (mnt u) (exq u - min (exq u) (exq v)).toNat * (2 : Int) ^ (min (exq u) (exq v) + 1074).toNat = SV u := a
    have b' : Ieee.signed (ng v) (mnt v) (exq v - min (exq u) (exq v)).toNat * (2 : Int) ^ (min (exq u) (exq v) + 1074).toNat = SV v := b
    rw [← a', ← b', ← Int.add_mul, sg_scale]
    rw [show (((2 ^ (min (exq u) (exq v) + 1074).toNat : Nat)) : Int) = (2 : Int) ^ (min (exq u) (exq v) + 1074).toNat by push_cast; rfl]
    congr 1
    generalize Ieee.signed (ng u) (mnt u) (exq u - min (exq u) (exq v)).toNat + Ieee.signed (ng v) (mnt v) (exq v - min (exq u) (exq v)).toNat = t
    unfold sg
    by_cases h0 : t = 0
    · rw [if_pos h0, h0]; simp
    · rw [if_neg h0]
      by_cases h1 : t < 0
      · rw [if_pos (by simpa using h1)]; omega
      · rw [if_neg (by simpa using h1)]; omega
  obtain ⟨s, m, k1, k2⟩ := key
  rw [k2, ← k1]
  refine ⟨?_, nearest_nn _ _ _⟩
  by_cases h0 : m = 0
  · subst h0
    rw [Nat.zero_mul]
    have : sg s 0 = 0 := by unfold sg; split <;> rfl
    rw [this, rz_zero _ (by decide)]
    unfold Ieee.Format.nearest
    rw [if_pos rfl, (rk_word s 0 (by decide)).1]
    split <;> rfl
  · have e1 := exq_ge u
    have e2 := exq_ge v
    rw [rk_nearest s m _ (-1074) h0 (by omega), show min (exq u) (exq v) - -1074 = min (exq u) (exq v) + 1074 by omega]

/-- A product of numbers is the product, rounded. -/
theorem rk_fmul (u v : Nat) (hu : F64 u) (hv : F64 v) (fu : fin u = true) (fv : fin v = true) :
    rk (fmul u v) = rz (-2148) (SV u * SV v) ∧ nn (fmul u v) = false := by
  have key : fmul u v = dbl.nearest (ng u ^^ ng v) (mnt u * mnt v) (exq u + exq v) := by
    unfold fmul Ieee.Format.mul
    rw [read_fin u hu fu, read_fin v hv fv]
    simp only [Ieee.Datum.product, Option.map_some, Option.getD_some]
    rw [write_num]
  rw [key]
  refine ⟨?_, nearest_nn _ _ _⟩
  have e1 := exq_ge u
  have e2 := exq_ge v
  have hS : SV u * SV v = sg (ng u ^^ ng v) (mnt u * mnt v * 2 ^ (exq u + exq v - -2148).toNat) := by
    rw [SV_sg, SV_sg, VV_mnt u hu fu, VV_mnt v hv fv]
    have : mnt u * mnt v * 2 ^ (exq u + exq v - -2148).toNat = (mnt u * 2 ^ (exq u + 1074).toNat) * (mnt v * 2 ^ (exq v + 1074).toNat) := by
      rw [show (exq u + exq v - -2148).toNat = (exq u + 1074).toNat + (exq v + 1074).toNat by omega, Nat.pow_add]
      rw [Nat.mul_mul_mul_comm]
    rw [this]
    generalize mnt u * 2 ^ (exq u + 1074).toNat = A
    generalize mnt v * 2 ^ (exq v + 1074).toNat = B
    unfold sg
    cases ng u <;> cases ng v <;> simp [Int.neg_mul, Int.mul_neg]
  by_cases h0 : mnt u * mnt v = 0
  · rw [hS, h0, Nat.zero_mul]
    have : sg (ng u ^^ ng v) 0 = 0 := by unfold sg; split <;> rfl
    rw [this, rz_zero _ (by decide)]
    unfold Ieee.Format.nearest
    rw [if_pos rfl, (rk_word _ 0 (by decide)).1]
    split <;> rfl
  · rw [rk_nearest _ _ _ (-2148) h0 (by omega), hS]

end Go.Proofs.Yteikihidblcljaa

/- Plain: a float's floor and its whole part; floats of whole numbers. No program. -/
namespace Go.Proofs.Yteikihidblcljaa
set_option linter.unusedVariables false

/-- One unit, counted in 2^-1074. -/
def dp : Nat := 1074
theorem dp_eq : dp = 1074 := rfl
def U1 : Nat := 2 ^ dp
theorem U1_pos : 0 < U1 := Nat.pow_pos (by decide)
/-- The floor of a number. -/
def fl0 (u : Nat) : Int := SV u / (U1 : Int)

theorem rnd_VV (r : Nat) (h : r < 9218868437227405312) : rnd (VV r) (-1074) false = r := by
  unfold VV
  by_cases h1 : r < 4503599627370496
  · rw [if_pos h1, rnd_low _ (by omega)]
  · rw [if_neg h1]
    have := rnd_scale (4503599627370496 + r % 4503599627370496) (r / 4503599627370496 - 1) ((r / 4503599627370496 - 1 : Nat) - 1074) (by omega)
    rw [show ((r / 4503599627370496 - 1 : Nat) - 1074 : Int) - ((r / 4503599627370496 - 1 : Nat) : Int) = -1074 by omega] at this
    rw [this, rnd_row _ _ (by omega) (by omega) (by omega)]
    omega

/-- What is exactly a word's size is written as that word. -/
theorem nearest_exact (s : Bool) (m : Nat) (e : Int) (r : Nat) (hr : r < 9218868437227405312) (he : -1074 ≤ e) (h : m * 2 ^ (e + 1074).toNat = VV r) : dbl.nearest s m e = dbl.word s r := by
  by_cases h0 : m = 0
  · subst h0
    rw [Nat.zero_mul] at h
    have : r = 0 := VV_inj (h.symm.trans VV_zero.symm)
    subst this
    unfold Ieee.Format.nearest; rw [if_pos rfl]
  · rw [nearest_rnd _ _ _ h0]
    have := rnd_scale m (e + 1074).toNat e h0
    rw [show e - ((e + 1074).toNat : Int) = -1074 by omega, h, rnd_VV r hr] at this
    rw [← this]
    congr 1
    omega

theorem rk_fin (x : Nat) : fin x = true ↔ (-9218868437227405312 < rk x ∧ rk x < 9218868437227405312) := by
  unfold fin INF rk
  cases ng x <;> simp <;> omega

theorem SV_le {x y : Nat} : SV x ≤ SV y ↔ rk x ≤ rk y := by
  have := @SV_lt y x
  omega

theorem rz_SV (x : Nat) (h : fin x = true) : rz (-1074) (SV x) = rk x := by
  have hf : mg x < 9218868437227405312 := by unfold fin INF at h; simpa using h
  have hr := rnd_VV (mg x) hf
  unfold SV rk
  cases hn : ng x
  · simp only [Bool.false_eq_true, if_false]
    unfold rz
    rw [if_neg (by omega), Int.natAbs_natCast, hr]
    omega
  · simp only [if_true]
    by_cases h0 : mg x = 0
    · rw [h0, VV_zero]; exact rz_zero _ (by decide)
    · have := VV_pos (r := mg x) (by omega)
      unfold rz
      rw [if_pos (by omega), show (-(VV (mg x) : Int)).natAbs = VV (mg x) by omega, hr]
      omega

/-- The word whose size is a whole number of at most 53 bits. -/
theorem int_word (M : Nat) (h : M ≤ 9007199254740992) : ∃ r, r < 9218868437227405312 ∧ VV r = M * U1 ∧ ∀ s, dbl.nearest s M 0 = dbl.word s r := by
  by_cases h0 : M = 0
  · subst h0
    refine ⟨0, by decide, by rw [VV_zero, Nat.zero_mul], fun s => ?_⟩
    unfold Ieee.Format.nearest; rw [if_pos rfl]
  · obtain ⟨b1, b2⟩ := ldM_bd M h0 h
    have b3 := ldL_le M h
    have hr := nearest_row (ldM M) (0 + ldL M - 52) b1 b2 (by omega) (by omega)
    rw [← nearest_ld false M 0 h0 h, show (0 + (ldL M : Int) - 52 + 1074).toNat = ldL M + 1022 by omega] at hr
    have key : VV ((ldL M + 1022) * 4503599627370496 + ldM M) = M * U1 := by
      unfold VV
      rw [if_neg (by omega), show ((ldL M + 1022) * 4503599627370496 + ldM M) % 4503599627370496 = ldM M - 4503599627370496 by omega,
        show ((ldL M + 1022) * 4503599627370496 + ldM M) / 4503599627370496 - 1 = ldL M + 1022 by omega, show 4503599627370496 + (ldM M - 4503599627370496) = ldM M by omega]
      unfold U1 ldM
      split
      · rename_i ht
        subst ht
        rw [show ldL 9007199254740992 = 53 by decide, show 53 + 1022 = 1 + dp by decide, Nat.pow_add 2 1 dp, ← Nat.mul_assoc]
      · have hb : bl M ≤ 53 := bl_le (by rw [show (2 : Nat) ^ 53 = 9007199254740992 by decide]; omega)
        have hp := bl_pos h0
        rw [Nat.mul_assoc, ← Nat.pow_add]
        have e : 52 - ldL M + (ldL M + 1022) = dp := by unfold ldL; rw [dp_eq]; omega
        rw [e]
    refine ⟨(ldL M + 1022) * 4503599627370496 + ldM M, by omega, key, fun s => ?_⟩
    exact nearest_exact s M 0 _ (by omega) (by decide) (by rw [key]; exact congrArg (fun k => M * 2 ^ k) (by decide : ((0 : Int) + 1074).toNat = dp))

theorem floatOfInt_sg (n : Int) : floatOfInt .f64 n = dbl.nearest (decide (n < 0)) n.natAbs 0 := rfl

/-- The float of a whole number. -/
theorem int_float (n : Int) (h1 : -9007199254740992 ≤ n) (h2 : n ≤ 9007199254740992) :
    SV (floatOfInt .f64 n) = n * (U1 : Int) ∧ fin (floatOfInt .f64 n) = true ∧ F64 (floatOfInt .f64 n) ∧ (n = 0 → floatOfInt .f64 n = 0) := by
  obtain ⟨r, r1, r2, r3⟩ := int_word n.natAbs (by omega)
  rw [floatOfInt_sg, r3]
  obtain ⟨w1, w2, w3, w4⟩ := rk_word (decide (n < 0)) r (by omega)
  refine ⟨?_, ?_, ?_, fun h0 => ?_⟩
  · unfold SV
    rw [w3, w4, r2]
    by_cases hn : n < 0
    · rw [if_pos (by simpa using hn)]
      rw [Int.natCast_mul, show ((n.natAbs : Nat) : Int) = -n by omega, Int.neg_mul, Int.neg_neg]
    · rw [if_neg (by simpa using hn)]
      rw [Int.natCast_mul, show ((n.natAbs : Nat) : Int) = n by omega]
  · unfold fin INF; rw [w3]; simp; omega
  · constructor
    unfold Ieee.Format.word; rw [dbl_sw]; split <;> omega
  · subst h0
    have : r = 0 := by
      have h : VV r = VV 0 := by rw [r2, VV_zero, show (0 : Int).natAbs = 0 from rfl, Nat.zero_mul]
      exact VV_inj h
    rw [this]; rfl

end Go.Proofs.Yteikihidblcljaa

/- Plain: the model's floor and whole part of a float, by its size. No program. -/
namespace Go.Proofs.Yteikihidblcljaa
set_option linter.unusedVariables false

theorem gap_div (n drop : Nat) : n / 1 <<< min drop (n.log2 + 2) = n / 2 ^ drop ∧ n % 1 <<< min drop (n.log2 + 2) = n % 2 ^ drop := by
  rw [Nat.one_shiftLeft]
  by_cases h : drop ≤ n.log2 + 2
  · rw [Nat.min_eq_left h]; exact ⟨rfl, rfl⟩
  · rw [Nat.min_eq_right (by omega)]
    have h1 : n < 2 ^ (n.log2 + 1) := Nat.lt_log2_self
    have h2 : 2 ^ (n.log2 + 1) ≤ 2 ^ (n.log2 + 2) := Nat.pow_le_pow_right (by decide) (by omega)
    have h3 : 2 ^ (n.log2 + 1) ≤ 2 ^ drop := Nat.pow_le_pow_right (by decide) (by omega)
    rw [Nat.div_eq_of_lt (by omega), Nat.div_eq_of_lt (by omega), Nat.mod_eq_of_lt (by omega), Nat.mod_eq_of_lt (by omega)]
    exact ⟨rfl, rfl⟩

theorem shift_parts (m : Nat) (i : Int) (hi : -1074 ≤ i) :
    (m <<< i.toNat) / 2 ^ (-i).toNat = m * 2 ^ (i + 1074).toNat / U1 ∧ ((m <<< i.toNat) % 2 ^ (-i).toNat = 0 ↔ m * 2 ^ (i + 1074).toNat % U1 = 0) := by
  have hu : U1 = 2 ^ dp := rfl
  have hd := dp_eq
  rw [Nat.shiftLeft_eq]
  by_cases h : 0 ≤ i
  · rw [show (-i).toNat = 0 by omega, Nat.pow_zero, Nat.div_one, Nat.mod_one, show (i + 1074).toNat = i.toNat + dp by omega, Nat.pow_add, ← Nat.mul_assoc, hu, Nat.mul_div_cancel _ (Nat.pow_pos (by decide)), Nat.mul_mod_left]
    exact ⟨rfl, Iff.rfl⟩
  · have e : dp = (i + 1074).toNat + (-i).toNat := by omega
    have hU : U1 = 2 ^ (i + 1074).toNat * 2 ^ (-i).toNat := by rw [hu, ← Nat.pow_add, ← e]
    rw [show i.toNat = 0 by omega, Nat.pow_zero, Nat.mul_one, hU, Nat.mul_comm m]
    rw [Nat.mul_div_mul_left _ _ (Nat.pow_pos (by decide)), Nat.mul_mod_mul_left]
    refine ⟨rfl, ?_⟩
    have hp := Nat.pow_pos (n := (i + 1074).toNat) (show 0 < 2 by decide)
    constructor
    · intro h; rw [h, Nat.mul_zero]
    · intro h; rcases Nat.mul_eq_zero.1 h with h | h
      · omega
      · exact h

theorem read_VV (u : Nat) (hu : F64 u) (h : fin u = true) : ∃ m i, dbl.read u = .number (ng u) m i ∧ (m <<< i.toNat) / 2 ^ (-i).toNat = VV (mg u) / U1 ∧ ((m <<< i.toNat) % 2 ^ (-i).toNat = 0 ↔ VV (mg u) % U1 = 0) := by
  refine ⟨mnt u, exq u, read_fin u hu h, ?_⟩
  rw [VV_mnt u hu h]
  exact shift_parts _ _ (exq_ge u)

/-- The whole part. -/
theorem toInt_zero (u : Nat) (hu : F64 u) (h : fin u = true) : (FloatKind.f64.decode u).toInt .zero = some (sg (ng u) (VV (mg u) / U1)) := by
  obtain ⟨m, i, h1, h2, h3⟩ := read_VV u hu h
  show (dbl.read u).toInt .zero = _
  rw [h1]
  unfold Ieee.Datum.toInt Ieee.Datum.integral Ieee.Toward.cut
  simp only [Bool.toNat_false, Nat.add_zero]
  rw [(gap_div _ _).1, h2, signed_sg, Nat.pow_zero, Nat.mul_one]

theorem int_trunc (n : Int) (h1 : -9007199254740992 ≤ n) (h2 : n ≤ 9007199254740992) : floatToIntVal .f64 (floatOfInt .f64 n) .i64 = some n := by
  obtain ⟨a, b, c, d⟩ := int_float n h1 h2
  unfold floatToIntVal
  rw [toInt_zero _ c b]
  have key : sg (ng (floatOfInt .f64 n)) (VV (mg (floatOfInt .f64 n)) / U1) = n := by
    have hp := U1_pos
    rw [SV_sg] at a
    generalize VV (mg (floatOfInt .f64 n)) = V at *
    generalize ng (floatOfInt .f64 n) = s at *
    have hV : V = n.natAbs * U1 := by
      have := congrArg Int.natAbs a
      rw [Int.natAbs_mul, Int.natAbs_natCast] at this
      rw [← this]; unfold sg; split <;> omega
    rw [hV, Nat.mul_div_cancel _ hp]
    by_cases h0 : n = 0
    · subst h0; unfold sg; split <;> rfl
    · have hs : s = decide (n < 0) := by
        rw [hV] at a
        have hpos : 0 < n.natAbs * U1 := Nat.mul_pos (by omega) hp
        by_cases hn : n < 0
        · have : n * (U1 : Int) < 0 := Int.mul_neg_of_neg_of_pos hn (by omega)
          rw [show decide (n < 0) = true by simpa using hn]
          cases s
          · exfalso; rw [sg_f] at a; omega
          · rfl
        · have : 0 < n * (U1 : Int) := Int.mul_pos (by omega) (by omega)
          rw [show decide (n < 0) = false by simpa using hn]
          cases s
          · rfl
          · exfalso; rw [sg_t] at a; omega
      rw [hs]
      unfold sg
      by_cases hn : n < 0
      · rw [if_pos (by simpa using hn)]; omega
      · rw [if_neg (by simpa using hn)]; omega
  simp only [key]
  rw [if_pos ⟨by show (-9223372036854775808 : Int) ≤ n; omega, by show n ≤ (9223372036854775807 : Int); omega⟩]

/-- The model's floor. -/
theorem floor_word (u : Nat) (hu : F64 u) (h : fin u = true) (hz : mg u = 0 → ng u = false) : FloatKind.f64.encode ((FloatKind.f64.decode u).integral .down) = floatOfInt .f64 (fl0 u) := by
  obtain ⟨m, i, h1, h2, h3⟩ := read_VV u hu h
  show dbl.write ((dbl.read u).integral .down) = _
  rw [h1, floatOfInt_sg]
  unfold Ieee.Datum.integral Ieee.Toward.cut
  simp only
  rw [write_num, (gap_div _ _).1, (gap_div _ _).2, h2]
  have hp := U1_pos
  unfold fl0
  rw [SV_sg]
  have hm : ((m <<< i.toNat % 2 ^ (-i).toNat != 0) : Bool) = (VV (mg u) % U1 != 0) := by
    rw [Bool.eq_iff_iff, bne_iff_ne, bne_iff_ne, ne_eq, ne_eq, h3]
  rw [hm]
  have hz' : VV (mg u) = 0 → ng u = false := fun h => hz (VV_inj (h.trans VV_zero.symm))
  generalize VV (mg u) = V at *
  have a := Nat.div_add_mod V U1
  have l := Nat.mod_lt V hp
  cases hs : ng u
  · rw [sg_f]
    simp only [Bool.false_and, Bool.toNat_false, Nat.add_zero]
    rw [show decide ((V : Int) / (U1 : Int) < 0) = false by
      simp only [decide_eq_false_iff_not, Int.not_lt]
      exact Int.ediv_nonneg (by omega) (by omega)]
    congr 1
  · rw [sg_t]
    have hV : V ≠ 0 := fun h => by have := hz' h; rw [hs] at this; cases this
    simp only [Bool.true_and]
    have e : (-(V : Int)) / (U1 : Int) = -((V / U1 + (V % U1 != 0).toNat : Nat) : Int) := by
      by_cases hr : V % U1 = 0
      · rw [hr]
        simp only [bne_self_eq_false, Bool.toNat_false, Nat.add_zero]
        have : (V : Int) = (U1 : Int) * ((V / U1 : Nat) : Int) := by rw [← Int.natCast_mul]; omega
        rw [this, ← Int.mul_neg, Int.mul_ediv_cancel_left _ (by omega)]
      · rw [show (V % U1 != 0) = true by rw [bne_iff_ne]; exact hr]
        simp only [Bool.toNat_true]
        have h1 : (V : Int) = (U1 : Int) * ((V / U1 : Nat) : Int) + ((V % U1 : Nat) : Int) := by rw [← Int.natCast_mul]; omega
        generalize V / U1 = Q at *
        generalize V % U1 = R at *
        rw [h1]
        have h2 : -((U1 : Int) * (Q : Int) + (R : Int)) = ((U1 : Int) - R) + (U1 : Int) * (-((Q : Int) + 1)) := by
          rw [Int.mul_neg, Int.mul_add, Int.mul_one]; omega
        rw [h2, Int.add_mul_ediv_left _ _ (by omega), Int.ediv_eq_zero_of_lt (by omega) (by omega)]
        omega
    have en : (-(V : Int) / (U1 : Int)).natAbs = V / U1 + (V % U1 != 0).toNat := by rw [e, Int.natAbs_neg, Int.natAbs_natCast]
    have hM : 0 < V / U1 + (V % U1 != 0).toNat := by
      by_cases hr : V % U1 = 0
      · have : V / U1 ≠ 0 := fun h => by rw [h, Nat.mul_zero] at a; omega
        exact Nat.add_pos_left (Nat.pos_of_ne_zero this) _
      · rw [show (V % U1 != 0) = true by rw [bne_iff_ne]; exact hr]; simp
    have ed : decide (-(V : Int) / (U1 : Int) < 0) = true := by
      rw [e, decide_eq_true_eq]
      generalize V / U1 + (V % U1 != 0).toNat = Z at *
      omega
    rw [ed, en]

end Go.Proofs.Yteikihidblcljaa

/- Plain: fn.Exp as a function of bits; its numbers stay numbers. No program. -/
namespace Go.Proofs.Yteikihidblcljaa
set_option linter.unusedVariables false

theorem read_flip (v : Nat) (hv : F64 v) (fv : fin v = true) : dbl.read (if ng v then mg v else mg v + 9223372036854775808) = (dbl.read v).opposite := by
  have hl : mg v < 9218868437227405312 := by unfold fin INF at fv; simpa using fv
  have hb := hv.out
  have e : ∀ y, y < 18446744073709551616 → mg y = mg v → dbl.read y = .number (ng y) (mnt v) (exq v) := fun y hy hm => by
    have : fin y = true := by unfold fin at *; rw [hm]; exact fv
    rw [read_fin y ⟨hy⟩ this]
    unfold mnt exq
    rw [hm]
  rw [read_fin v hv fv]
  cases hn : ng v
  · have h1 : mg (mg v + 9223372036854775808) = mg v := by rw [mg_val (mg v + _)]; omega
    have h2 : ng (mg v + 9223372036854775808) = true := by unfold ng; simp
    simp only [Bool.false_eq_true, if_false]
    rw [e _ (by omega) h1, h2]; rfl
  · have h1 : mg (mg v) = mg v := mg_small _ (by omega)
    have h2 : ng (mg v) = false := ng_small _ (by omega)
    simp only [if_true]
    rw [e _ (by omega) h1, h2]; rfl

/-- A difference is the difference, rounded. -/
theorem rk_fsub (u v : Nat) (hu : F64 u) (hv : F64 v) (fu : fin u = true) (fv : fin v = true) :
    rk (fsub u v) = rz (-1074) (SV u - SV v) ∧ nn (fsub u v) = false := by
  have hl : mg v < 9218868437227405312 := by unfold fin INF at fv; simpa using fv
  have key : ∃ y, F64 y ∧ fin y = true ∧ SV y = -SV v ∧ dbl.read y = (dbl.read v).opposite := by
    refine ⟨if ng v then mg v else mg v + 9223372036854775808, ?_, ?_, ?_, read_flip v hv fv⟩
    · constructor; split <;> omega
    · unfold fin INF
      split
      · rw [mg_small _ (by omega)]; simpa using hl
      · rw [mg_val (mg v + _)]; simp; omega
    · unfold SV
      cases hn : ng v
      · have h1 : mg (mg v + 9223372036854775808) = mg v := by rw [mg_val (mg v + _)]; omega
        have h2 : ng (mg v + 9223372036854775808) = true := by unfold ng; simp
        simp only [Bool.false_eq_true, if_false]
        rw [h1, h2]; rfl
      · have h1 : mg (mg v) = mg v := mg_small _ (by omega)
        have h2 : ng (mg v) = false := ng_small _ (by omega)
        simp only [if_true]
        rw [h1, h2]; simp
  obtain ⟨y, y1, y2, y3, y4⟩ := key
  have h := rk_fadd u y hu y1 fu y2
  have e : fadd u y = fsub u v := by unfold fadd fsub Ieee.Format.add Ieee.Format.sub; rw [y4]
  rw [e, y3] at h
  exact h

theorem fadd_mono (u u' v v' : Nat) (a1 : F64 u) (a2 : F64 u') (a3 : F64 v) (a4 : F64 v') (b1 : fin u = true) (b2 : fin u' = true) (b3 : fin v = true) (b4 : fin v' = true)
    (h : rk u ≤ rk u') (h' : rk v ≤ rk v') : rk (fadd u v) ≤ rk (fadd u' v') := by
  rw [(rk_fadd u v a1 a3 b1 b3).1, (rk_fadd u' v' a2 a4 b2 b4).1]
  refine rz_mono _ (by decide) ?_
  have := SV_le.2 h
  have := SV_le.2 h'
  omega
theorem fsub_mono (u u' v v' : Nat) (a1 : F64 u) (a2 : F64 u') (a3 : F64 v) (a4 : F64 v') (b1 : fin u = true) (b2 : fin u' = true) (b3 : fin v = true) (b4 : fin v' = true)
    (h : rk u ≤ rk u') (h' : rk v' ≤ rk v) : rk (fsub u v) ≤ rk (fsub u' v') := by
  rw [(rk_fsub u v a1 a3 b1 b3).1, (rk_fsub u' v' a2 a4 b2 b4).1]
  refine rz_mono _ (by decide) ?_
  have := SV_le.2 h
  have := SV_le.2 h'
  omega
theorem SV_nonneg {x : Nat} (h : 0 ≤ rk x) : 0 ≤ SV x := by
  have : rk 0 ≤ rk x := by have : rk 0 = 0 := by decide +kernel
                           omega
  have := SV_le.2 this
  have e : SV 0 = 0 := by decide +kernel
  omega
theorem SV_nonpos {x : Nat} (h : rk x ≤ 0) : SV x ≤ 0 := by
  have : rk x ≤ rk 0 := by have : rk 0 = 0 := by decide +kernel
                           omega
  have := SV_le.2 this
  have e : SV 0 = 0 := by decide +kernel
  omega
/-- Times what is not below 0. -/
theorem fmul_mono (u u' v : Nat) (a1 : F64 u) (a2 : F64 u') (a3 : F64 v) (b1 : fin u = true) (b2 : fin u' = true) (b3 : fin v = true)
    (h : rk u ≤ rk u') (h' : 0 ≤ rk v) : rk (fmul u v) ≤ rk (fmul u' v) := by
  rw [(rk_fmul u v a1 a3 b1 b3).1, (rk_fmul u' v a2 a3 b2 b3).1]
  exact rz_mono _ (by decide) (Int.mul_le_mul_of_nonneg_right (SV_le.2 h) (SV_nonneg h'))
theorem fmul_mono2 (u u' v v' : Nat) (a1 : F64 u) (a2 : F64 u') (a3 : F64 v) (a4 : F64 v') (b1 : fin u = true) (b2 : fin u' = true) (b3 : fin v = true) (b4 : fin v' = true)
    (h : rk u ≤ rk u') (h0 : 0 ≤ rk u) (h' : rk v ≤ rk v') (h0' : 0 ≤ rk v) : rk (fmul u v) ≤ rk (fmul u' v') := by
  rw [(rk_fmul u v a1 a3 b1 b3).1, (rk_fmul u' v' a2 a4 b2 b4).1]
  exact rz_mono _ (by decide) (Int.mul_le_mul (SV_le.2 h) (SV_le.2 h') (SV_nonneg h0') (Int.le_trans (SV_nonneg h0) (SV_le.2 h)))
theorem fmul_nonneg (u v : Nat) (a1 : F64 u) (a3 : F64 v) (b1 : fin u = true) (b3 : fin v = true) (h : 0 ≤ rk u) (h' : 0 ≤ rk v) : 0 ≤ rk (fmul u v) := by
  rw [(rk_fmul u v a1 a3 b1 b3).1]
  have := rz_mono (z := 0) (-2148) (by decide) (Int.mul_nonneg (SV_nonneg h) (SV_nonneg h'))
  rwa [rz_zero _ (by decide)] at this

theorem fin_mid (x lo hi : Nat) (h1 : rk lo ≤ rk x) (h2 : rk x ≤ rk hi) (f1 : fin lo = true) (f2 : fin hi = true) : fin x = true := by
  rw [rk_fin] at *; omega

end Go.Proofs.Yteikihidblcljaa

/- Plain: fn.Exp as a function of bits; its numbers stay numbers. No program. -/
namespace Go.Proofs.Yteikihidblcljaa
set_option linter.unusedVariables false

abbrev oneW : Nat := 4607182418800017408
abbrev rateW : Nat := 4609176140021203710
abbrev halfW : Nat := 4602678819172646912
abbrev highW : Nat := 4604418534311723008
abbrev lowW : Nat := 4461442080421002358
abbrev w710 : Nat := 4649456441864749056
abbrev w746 : Nat := 13873145138068324352

def exU (x : Nat) : Nat := fadd (fmul x rateW) halfW
def exN (x : Nat) : Int := fl0 (exU x)
def exR (x : Nat) (n : Int) : Nat := fsub (fsub x (fmul (floatOfInt .f64 n) highW)) (fmul (floatOfInt .f64 n) lowW)
/-- 1 / i!, i from 0 to 13, by float steps. -/
def exC : List Nat := [4607182418800017408, 4607182418800017408, 4602678819172646912, 4595172819793696085, 4586165620538955093, 4575957461383581969, 4564047942368979991, 4551452160554016794, 4537941361671905306, 4523617214285662004, 4508805057796939612, 4493156764026750180, 4477122120089393304, 4460272573143870729]
def x2000 : Nat := floatOfInt .f64 2048

/-- What is looked at, n by n. -/
def exLow (n : Int) : Nat := fsub (fmul (floatOfInt .f64 n) highW) 4606281698874543309
def exOk (n : Int) : Bool :=
  fin (fmul (floatOfInt .f64 n) highW) && fin (fmul (floatOfInt .f64 n) lowW) && fin (exLow n) && fin (exU (exLow n)) && fin (fmul (exLow n) rateW) && decide (fl0 (exU (exLow n)) < n) &&
  fin (fsub (exLow n) (fmul (floatOfInt .f64 n) highW)) && fin (fsub w710 (fmul (floatOfInt .f64 n) highW)) &&
  decide (rk 13830554455654793216 ≤ rk (exR (exLow n) n)) && decide (rk (exR w710 n) ≤ rk x2000)

end Go.Proofs.Yteikihidblcljaa

/- Plain: each n that fn.Exp can meet, looked at. No program. -/
namespace Go.Proofs.Yteikihidblcljaa

theorem exChk0 : (List.range 263).all (fun (k : Nat) => exOk ((k : Int) - 1076)) = true := by decide +kernel
theorem exChk1 : (List.range 263).all (fun (k : Nat) => exOk ((k : Int) - 813)) = true := by decide +kernel
theorem exChk2 : (List.range 263).all (fun (k : Nat) => exOk ((k : Int) - 550)) = true := by decide +kernel
theorem exChk3 : (List.range 263).all (fun (k : Nat) => exOk ((k : Int) - 287)) = true := by decide +kernel
theorem exChk4 : (List.range 263).all (fun (k : Nat) => exOk ((k : Int) - 24)) = true := by decide +kernel
theorem exChk5 : (List.range 263).all (fun (k : Nat) => exOk ((k : Int) + 239)) = true := by decide +kernel
theorem exChk6 : (List.range 263).all (fun (k : Nat) => exOk ((k : Int) + 502)) = true := by decide +kernel
theorem exChk7 : (List.range 263).all (fun (k : Nat) => exOk ((k : Int) + 765)) = true := by decide +kernel

theorem ex_all (n : Int) (h1 : -1076 ≤ n) (h2 : n ≤ 1024) : exOk n = true := by
  have key : ∀ (b : Int) (k : Nat), k < 263 → n = (k : Int) + b → (List.range 263).all (fun (k : Nat) => exOk ((k : Int) + b)) = true → exOk n = true := fun b k hk hn h => by
    rw [List.all_eq_true] at h
    rw [hn]
    exact h k (List.mem_range.2 hk)
  by_cases g0 : n < -813
  · exact key (-1076) (n - (-1076)).toNat (by omega) (by omega) exChk0
  by_cases g1 : n < -550
  · exact key (-813) (n - (-813)).toNat (by omega) (by omega) exChk1
  by_cases g2 : n < -287
  · exact key (-550) (n - (-550)).toNat (by omega) (by omega) exChk2
  by_cases g3 : n < -24
  · exact key (-287) (n - (-287)).toNat (by omega) (by omega) exChk3
  by_cases g4 : n < 239
  · exact key (-24) (n - (-24)).toNat (by omega) (by omega) exChk4
  by_cases g5 : n < 502
  · exact key (239) (n - (239)).toNat (by omega) (by omega) exChk5
  by_cases g6 : n < 765
  · exact key (502) (n - (502)).toNat (by omega) (by omega) exChk6
  by_cases g7 : n < 1028
  · exact key (765) (n - (765)).toNat (by omega) (by omega) exChk7
  omega

end Go.Proofs.Yteikihidblcljaa

/- Plain: fn.Exp's numbers stay numbers, and what it tells is not below 0. No program. -/
namespace Go.Proofs.Yteikihidblcljaa
set_option linter.unusedVariables false

theorem fl0_mono {u v : Nat} (h : rk u ≤ rk v) : fl0 u ≤ fl0 v := by
  unfold fl0
  exact Int.ediv_le_ediv (by have := U1_pos; omega) (SV_le.2 h)

theorem F64_rate : F64 rateW := ⟨by decide⟩
theorem F64_half : F64 halfW := ⟨by decide⟩
theorem F64_high : F64 highW := ⟨by decide⟩
theorem F64_low : F64 lowW := ⟨by decide⟩
theorem F64_exU (x : Nat) : F64 (exU x) := F64_fadd _ _
theorem F64_exR (x : Nat) (n : Int) : F64 (exR x n) := F64_fsub _ _

theorem exU_mono {x y : Nat} (hx : F64 x) (hy : F64 y) (fx : fin x = true) (fy : fin y = true) (gx : fin (fmul x rateW) = true) (gy : fin (fmul y rateW) = true) (h : rk x ≤ rk y) : rk (exU x) ≤ rk (exU y) :=
  fadd_mono _ _ _ _ (F64_fmul _ _) (F64_fmul _ _) F64_half F64_half gx gy (by decide +kernel) (by decide +kernel) (fmul_mono x y rateW hx hy F64_rate fx fy (by decide +kernel) h (by decide +kernel)) (Int.le_refl _)

/-- A sum is the lesser zero of two such only. -/
theorem fadd_zng (u v : Nat) (hu : F64 u) (hv : F64 v) (fu : fin u = true) (fv : fin v = true) (hn : ng v = false) (h : mg (fadd u v) = 0) : ng (fadd u v) = false := by
  rw [fadd_num u v hu hv fu fv] at *
  generalize sumD (ng u) (mnt u * 2 ^ (exq u - min (exq u) (exq v)).toNat) (ng v) (mnt v * 2 ^ (exq v - min (exq u) (exq v)).toNat) = d at *
  generalize sumS (ng u) (mnt u * 2 ^ (exq u - min (exq u) (exq v)).toNat) (ng v) (mnt v * 2 ^ (exq v - min (exq u) (exq v)).toNat) = s at *
  have e1 := exq_ge u
  have e2 := exq_ge v
  generalize hE : min (exq u) (exq v) = E at *
  by_cases h0 : d = 0
  · rw [if_pos h0, hn, Bool.and_false]
    exact ng_small 0 (by decide)
  · exfalso
    rw [if_neg h0, nearest_rnd _ _ _ h0, (rk_word _ _ (Nat.min_le_right _ _)).2.2.1] at h
    have hs := rnd_scale d (E + 1074).toNat E h0
    rw [show E - ((E + 1074).toNat : Int) = -1074 by omega] at hs
    have hp := Nat.pow_pos (n := (E + 1074).toNat) (show 0 < 2 by decide)
    have hm := rnd_mono (d := 1) (d' := d * 2 ^ (E + 1074).toNat) (-1074) (by decide) (Nat.mul_pos (by omega) hp)
    rw [rnd_low 1 (by decide), hs] at hm
    omega

theorem lo_facts : fin w746 = true ∧ fin (fmul w746 rateW) = true ∧ fin (exU w746) = true ∧ -1076 ≤ fl0 (exU w746) := by decide +kernel
theorem hi_facts : fin w710 = true ∧ fin (fmul w710 rateW) = true ∧ fin (exU w710) = true ∧ fl0 (exU w710) ≤ 1024 := by decide +kernel
theorem F64_w746 : F64 w746 := ⟨by decide⟩
theorem F64_w710 : F64 w710 := ⟨by decide⟩

structure ExF (x : Nat) : Prop where
  f1 : fin (fmul x rateW) = true
  f2 : fin (exU x) = true
  z : mg (exU x) = 0 → ng (exU x) = false
  n1 : -1076 ≤ exN x
  n2 : exN x ≤ 1024
  f3 : fin (fmul (floatOfInt .f64 (exN x)) highW) = true
  f4 : fin (fmul (floatOfInt .f64 (exN x)) lowW) = true
  f5 : fin (fsub x (fmul (floatOfInt .f64 (exN x)) highW)) = true
  f6 : fin (exR x (exN x)) = true
  r1 : rk 13830554455654793216 ≤ rk (exR x (exN x))
  r2 : rk (exR x (exN x)) ≤ rk x2000

theorem ex_facts (x : Nat) (hx : F64 x) (fx : fin x = true) (h1 : rk w746 < rk x) (h2 : rk x < rk w710) : ExF x := by
  obtain ⟨a1, a2, a3, a4⟩ := lo_facts
  obtain ⟨b1, b2, b3, b4⟩ := hi_facts
  have m1 := fmul_mono w746 x rateW F64_w746 hx F64_rate a1 fx (by decide +kernel) (Int.le_of_lt h1) (by decide +kernel)
  have m2 := fmul_mono x w710 rateW hx F64_w710 F64_rate fx b1 (by decide +kernel) (Int.le_of_lt h2) (by decide +kernel)
  have f1 := fin_mid _ _ _ m1 m2 a2 b2
  have u1 := exU_mono F64_w746 hx a1 fx a2 f1 (Int.le_of_lt h1)
  have u2 := exU_mono hx F64_w710 fx b1 f1 b2 (Int.le_of_lt h2)
  have f2 := fin_mid _ _ _ u1 u2 a3 b3
  have n1 : -1076 ≤ exN x := Int.le_trans a4 (fl0_mono u1)
  have n2 : exN x ≤ 1024 := Int.le_trans (fl0_mono u2) b4
  have ok := ex_all (exN x) n1 n2
  unfold exOk at ok
  simp only [Bool.and_eq_true, decide_eq_true_eq] at ok
  obtain ⟨⟨⟨⟨⟨⟨⟨⟨⟨o1, o2⟩, o3⟩, o4⟩, o5⟩, o6⟩, o7⟩, o8⟩, o9⟩, o10⟩ := ok
  have hL : F64 (exLow (exN x)) := F64_fsub _ _
  have hlt : rk (exLow (exN x)) < rk x := by
    refine Decidable.byContradiction fun hc => ?_
    have := fl0_mono (exU_mono hx hL fx o3 f1 o5 (by omega))
    unfold exN at *
    omega
  have K := F64_fmul (floatOfInt .f64 (exN x)) highW
  have K2 := F64_fmul (floatOfInt .f64 (exN x)) lowW
  have p1 := fsub_mono _ x _ _ hL hx K K o3 fx o1 o1 (Int.le_of_lt hlt) (Int.le_refl _)
  have p2 := fsub_mono x w710 _ _ hx F64_w710 K K fx b1 o1 o1 (Int.le_of_lt h2) (Int.le_refl _)
  have f5 := fin_mid _ _ _ p1 p2 o7 o8
  have q1 := fsub_mono _ _ _ _ (F64_fsub _ _) (F64_fsub _ _) K2 K2 o7 f5 o2 o2 p1 (Int.le_refl _)
  have q2 := fsub_mono _ _ _ _ (F64_fsub _ _) (F64_fsub _ _) K2 K2 f5 o8 o2 o2 p2 (Int.le_refl _)
  have r1 : rk 13830554455654793216 ≤ rk (exR x (exN x)) := Int.le_trans o9 q1
  have r2 : rk (exR x (exN x)) ≤ rk x2000 := Int.le_trans q2 o10
  exact ⟨f1, f2, fadd_zng _ _ (F64_fmul _ _) F64_half f1 (by decide +kernel) (by decide +kernel), n1, n2, o1, o2, f5, fin_mid _ _ _ r1 r2 (by decide +kernel) (by decide +kernel), r1, r2⟩

/-- Coefficients not below 0: the polynomial goes with its argument, as long as it is a number. -/
def okUp (X : Nat) : List Nat → Bool
  | [] => true
  | [c] => decide (c < 9218868437227405312)
  | a :: b :: l => decide (a < 9218868437227405312) && okUp X (b :: l) && fin (fmul (horn (b :: l) X) X) && fin (horn (a :: b :: l) X)

theorem pos_word (c : Nat) (h : c < 9218868437227405312) : F64 c ∧ fin c = true ∧ 0 ≤ rk c := by
  have hm := mg_small c (by omega)
  refine ⟨⟨by omega⟩, ?_, ?_⟩
  · unfold fin INF; rw [hm]; simpa using h
  · rw [rk_of_pos (ng_small c (by omega))]; omega

theorem F64_hornl (l : List Nat) (x : Nat) (hl : ∀ c, c ∈ l → c < 9218868437227405312) : F64 (horn l x) := by
  match l with
  | [] => exact ⟨by unfold horn; decide⟩
  | [c] => exact (pos_word c (hl c (by simp))).1
  | a :: b :: l => exact F64_fadd _ _

theorem horn_up (X r : Nat) (hX : F64 X) (fX : fin X = true) (hr : F64 r) (fr : fin r = true) (h0 : 0 ≤ rk r) (h : rk r ≤ rk X) : ∀ l : List Nat, l ≠ [] → okUp X l = true →
    F64 (horn l r) ∧ F64 (horn l X) ∧ fin (horn l r) = true ∧ fin (horn l X) = true ∧ 0 ≤ rk (horn l r) ∧ rk (horn l r) ≤ rk (horn l X)
  | [], hn, _ => absurd rfl hn
  | [c], _, hk => by
    unfold okUp at hk
    obtain ⟨a, b, d⟩ := pos_word c (by simpa using hk)
    exact ⟨a, a, b, b, d, Int.le_refl _⟩
  | a :: b :: l, _, hk => by
    unfold okUp at hk
    simp only [Bool.and_eq_true, decide_eq_true_eq] at hk
    obtain ⟨⟨⟨k1, k2⟩, k3⟩, k4⟩ := hk
    obtain ⟨i1, i2, i3, i4, i5, i6⟩ := horn_up X r hX fX hr fr h0 h (b :: l) (by simp) k2
    obtain ⟨a1, a2, a3⟩ := pos_word a k1
    have m := fmul_mono2 _ _ _ _ i1 i2 hr hX i3 i4 fr fX i6 i5 h h0
    have m0 := fmul_nonneg _ _ i1 hr i3 fr i5 h0
    have z0 : rk 0 = 0 := by decide +kernel
    have f1 := fin_mid _ 0 _ (by omega) m (by decide +kernel) k3
    have s := fadd_mono _ _ a a (F64_fmul _ _) (F64_fmul _ _) a1 a1 f1 k3 a2 a2 m (Int.le_refl _)
    have s0 : 0 ≤ rk (fadd (fmul (horn (b :: l) r) r) a) := by
      have := fadd_mono 0 _ 0 a ⟨by decide⟩ (F64_fmul (horn (b :: l) r) r) ⟨by decide⟩ a1 (by decide +kernel) f1 (by decide +kernel) a2 (by omega) (by omega)
      rwa [show rk (fadd 0 0) = 0 by decide +kernel] at this
    exact ⟨F64_fadd _ _, F64_fadd _ _, fin_mid _ 0 _ (by show rk 0 ≤ rk (fadd _ _); omega) s (by decide +kernel) k4, k4, s0, s⟩

/-- Coefficients that fall: below 0, down to -1, the polynomial lies from 0 to the first one. -/
def okDn : List Nat → Bool
  | [] => true
  | [c] => decide (c < 9218868437227405312)
  | a :: b :: l => decide (a < 9218868437227405312) && decide (b ≤ a) && okDn (b :: l)

theorem SV_m1 : SV 13830554455654793216 = -(U1 : Int) := by decide +kernel
theorem rz_U1 (z : Int) : rz (-2148) (z * (U1 : Int)) = rz (-1074) z := by
  have hu : U1 = 2 ^ dp := rfl
  have hd := dp_eq
  have hp := U1_pos
  by_cases h0 : z = 0
  · subst h0; rw [Int.zero_mul, rz_zero _ (by decide), rz_zero _ (by decide)]
  · have e : rnd (z * (U1 : Int)).natAbs (-2148) false = rnd z.natAbs (-1074) false := by
      rw [Int.natAbs_mul, Int.natAbs_natCast, hu]
      have := rnd_scale z.natAbs dp (-1074) (by omega)
      rw [show (-1074 : Int) - (dp : Int) = -2148 by rw [hd]; rfl] at this
      exact this
    unfold rz
    rw [e]
    by_cases hn : z < 0
    · rw [if_pos hn, if_pos (Int.mul_neg_of_neg_of_pos hn (by omega))]
    · rw [if_neg hn, if_neg (by have := Int.mul_pos (show 0 < z by omega) (show (0 : Int) < (U1 : Int) by omega); omega)]

theorem neg_word (b : Nat) (hb : b < 9218868437227405312) : ∃ y, SV y = -SV b ∧ rk y = -rk b := by
  obtain ⟨w1, w2, w3, w4⟩ := rk_word true b (Nat.le_of_lt hb)
  have e1 := ng_small b (by omega)
  have e2 := mg_small b (by omega)
  refine ⟨dbl.word true b, ?_, ?_⟩
  · unfold SV; rw [w3, w4, e1, e2]; rfl
  · rw [w1, rk_of_pos e1, e2]; rfl

theorem horn_dn (r : Nat) (hr : F64 r) (fr : fin r = true) (h0 : rk r ≤ 0) (h : rk 13830554455654793216 ≤ rk r) : ∀ l : List Nat, l ≠ [] → okDn l = true →
    F64 (horn l r) ∧ fin (horn l r) = true ∧ 0 ≤ rk (horn l r) ∧ rk (horn l r) ≤ rk (l.headD 0)
  | [], hn, _ => absurd rfl hn
  | [c], _, hk => by
    unfold okDn at hk
    obtain ⟨a, b, d⟩ := pos_word c (by simpa using hk)
    exact ⟨a, b, d, Int.le_refl _⟩
  | a :: b :: l, _, hk => by
    unfold okDn at hk
    simp only [Bool.and_eq_true, decide_eq_true_eq] at hk
    obtain ⟨⟨k1, k2⟩, k3⟩ := hk
    obtain ⟨i1, i2, i3, i4⟩ := horn_dn r hr fr h0 h (b :: l) (by simp) k3
    obtain ⟨a1, a2, a3⟩ := pos_word a k1
    have k1b : b < 9218868437227405312 := by omega
    obtain ⟨b1, b2, b3⟩ := pos_word b k1b
    have i4 : rk (horn (b :: l) r) ≤ rk b := i4
    have hba : rk b ≤ rk a := by
      rw [rk_of_pos (ng_small a (by omega)), rk_of_pos (ng_small b (by omega)), mg_small a (by omega), mg_small b (by omega)]; omega
    obtain ⟨m1, m2⟩ := rk_fmul (horn (b :: l) r) r i1 hr i2 fr
    have z0 : rk 0 = 0 := by decide +kernel
    have mle : rk (fmul (horn (b :: l) r) r) ≤ 0 := by
      rw [m1]
      have := rz_mono (z' := 0) (-2148) (by decide) (Int.mul_nonpos_of_nonneg_of_nonpos (SV_nonneg i3) (SV_nonpos h0))
      rwa [rz_zero _ (by decide)] at this
    have mge : -rk b ≤ rk (fmul (horn (b :: l) r) r) := by
      rw [m1, ← rz_SV b b2, ← rz_neg _ (by decide), ← rz_U1]
      refine rz_mono _ (by decide) ?_
      have s1 := SV_le.2 h
      rw [SV_m1] at s1
      have s2 := SV_le.2 i4
      have s3 := SV_nonneg i3
      have s4 := SV_nonneg b3
      have t1 : SV (horn (b :: l) r) * -(U1 : Int) ≤ SV (horn (b :: l) r) * SV r := Int.mul_le_mul_of_nonneg_left s1 s3
      have t2 : SV (horn (b :: l) r) * (U1 : Int) ≤ SV b * (U1 : Int) := Int.mul_le_mul_of_nonneg_right s2 (by omega)
      rw [Int.mul_neg] at t1
      rw [Int.neg_mul]
      omega
    have f1 : fin (fmul (horn (b :: l) r) r) = true := by rw [rk_fin] at *; omega
    obtain ⟨q1, q2⟩ := rk_fadd (fmul (horn (b :: l) r) r) a (F64_fmul _ _) a1 f1 a2
    have sm : SV (fmul (horn (b :: l) r) r) ≤ 0 := SV_nonpos mle
    have sge : 0 ≤ SV (fmul (horn (b :: l) r) r) + SV a := by
      have e : SV (fmul (horn (b :: l) r) r) ≥ -SV b := by
        obtain ⟨y, y1, y2⟩ := neg_word b k1b
        have : rk y ≤ rk (fmul (horn (b :: l) r) r) := by omega
        have := SV_le.2 this
        omega
      have := SV_le.2 hba
      omega
    have r0 : 0 ≤ rk (fadd (fmul (horn (b :: l) r) r) a) := by
      rw [q1]
      have := rz_mono (-1074) (by decide) sge
      rwa [rz_zero _ (by decide)] at this
    have r1 : rk (fadd (fmul (horn (b :: l) r) r) a) ≤ rk a := by
      rw [q1, ← rz_SV a a2]
      exact rz_mono (-1074) (by decide) (by omega)
    exact ⟨F64_fadd _ _, fin_mid _ 0 a (by show rk 0 ≤ rk (fadd _ _); omega) r1 (by decide +kernel) a2, r0, r1⟩

theorem exC_up : okUp x2000 exC = true := by decide +kernel
theorem exC_dn : okDn exC = true := by decide +kernel

/-- The polynomial of exp is a number, not below 0. -/
theorem ex_poly (x : Nat) (h : ExF x) : F64 (horn exC (exR x (exN x))) ∧ fin (horn exC (exR x (exN x))) = true ∧ 0 ≤ rk (horn exC (exR x (exN x))) := by
  by_cases h0 : 0 ≤ rk (exR x (exN x))
  · obtain ⟨a, _, b, _, c, _⟩ := horn_up x2000 _ (int_float 2048 (by decide) (by decide)).2.2.1 (by decide +kernel) (F64_exR x _) h.f6 h0 h.r2 exC (by unfold exC; simp) exC_up
    exact ⟨a, b, c⟩
  · obtain ⟨a, b, c, _⟩ := horn_dn _ (F64_exR x _) h.f6 (by omega) h.r1 exC (by unfold exC; simp) exC_dn
    exact ⟨a, b, c⟩

end Go.Proofs.Yteikihidblcljaa

/- Plain: fn.Ln as a function of bits. No program. -/
namespace Go.Proofs.Yteikihidblcljaa
set_option linter.unusedVariables false
set_option linter.unusedSimpArgs false

abbrev rootW : Nat := 4609047870845172685
abbrev twoW : Nat := 4611686018427387904
abbrev ninfW : Nat := 18442240474082181120
/-- x is m * 2^k, m from 1 to below 2. -/
def lnK (x : Nat) : Int := (bl (mnt x) : Int) - 1 + exq x
def lnM0 (x : Nat) : Nat := dbl.nearest false (mnt x) (1 - (bl (mnt x) : Int))
def lnM (x : Nat) : Nat := if rk rootW < rk (lnM0 x) then fmul (lnM0 x) halfW else lnM0 x
def lnN (x : Nat) : Int := if rk rootW < rk (lnM0 x) then lnK x + 1 else lnK x
/-- 1 / (2 i + 1), i from 0 to 10, as floats. -/
def lnC : List Nat := [4607182418800017408, 4599676419421066581, 4596373779694328218, 4594314991293244562, 4592670820000712476, 4591215111030249286, 4590207312512236308, 4589468260265693457, 4588638185040256542, 4587745830934523688, 4587023449039406616]
def lnS (m : Nat) : Nat := fdiv (fsub m oneW) (fadd m oneW)
def lnV (m : Nat) (n : Int) : Nat :=
  fadd (fmul (floatOfInt .f64 n) highW) (fadd (fmul (fmul twoW (lnS m)) (horn lnC (fmul (lnS m) (lnS m)))) (fmul (floatOfInt .f64 n) lowW))
def fln (x : Nat) : Nat := if nn x then NaNc else if mg x = 0 then ninfW else if ng x then NaNc else if mg x = INF then x else lnV (lnM x) (lnN x)

theorem lnC_cn : lnC.map cn = lnC := by decide +kernel
theorem lnC_64 : lnC.all (fun x => decide (x < 18446744073709551616)) = true := by decide

/-- The digits, moved up to fill the row. -/
def lnR (x : Nat) : Nat := mnt x * 2 ^ (53 - bl (mnt x))
theorem lnR_bd (x : Nat) (h0 : mnt x ≠ 0) : 4503599627370496 ≤ lnR x ∧ lnR x < 9007199254740992 ∧ bl (mnt x) ≤ 53 ∧ 1 ≤ bl (mnt x) := by
  have hl := mnt_lt x
  have hb : bl (mnt x) ≤ 53 := bl_le (by rw [show (2 : Nat) ^ 53 = 9007199254740992 by decide]; exact hl)
  have hp := bl_pos h0
  have hs := bl_shift h0 (53 - bl (mnt x))
  unfold lnR
  rw [show bl (mnt x) + (53 - bl (mnt x)) = 53 by omega] at hs
  have a := bl_lt (mnt x * 2 ^ (53 - bl (mnt x)))
  have b := le_of_bl (x := mnt x * 2 ^ (53 - bl (mnt x))) (n := 52) (by omega)
  rw [hs] at a
  rw [show (2 : Nat) ^ 53 = 9007199254740992 by decide] at a
  rw [show (2 : Nat) ^ 52 = 4503599627370496 by decide] at b
  exact ⟨b, a, hb, hp⟩

theorem lnM0_row (x : Nat) (h0 : mnt x ≠ 0) : lnM0 x = 4602678819172646912 + lnR x ∧ dbl.nearest false (lnR x) (-52) = lnM0 x := by
  obtain ⟨a, b, c, d⟩ := lnR_bd x h0
  have hs := nearest_scale false (mnt x) (53 - bl (mnt x)) (1 - (bl (mnt x) : Int)) h0
  rw [show (1 - (bl (mnt x) : Int)) - ((53 - bl (mnt x) : Nat) : Int) = -52 by omega] at hs
  have hr := nearest_row (lnR x) (-52) a b (by decide) (by decide)
  refine ⟨?_, hs⟩
  unfold lnM0
  rw [← hs]
  show dbl.nearest false (lnR x) (-52) = _
  rw [hr]; rfl

structure RowW (w M : Nat) (e : Int) : Prop where
  m : mnt w = M
  e : exq w = e
  f : fin w = true
  g : ng w = false
  w : F64 w

theorem row_w (M T : Nat) (h1 : 4503599627370496 ≤ M) (h2 : M < 9007199254740992) (hT : T ≤ 2045) : RowW (T * 4503599627370496 + M) M ((T : Int) - 1074) := by
  obtain ⟨a, b, c, d, f⟩ := row_parts M T h1 h2 hT
  exact ⟨a, b, c, d, f⟩
theorem half_w : RowW halfW 4503599627370496 (-53) := row_w 4503599627370496 1021 (by decide) (by decide) (by decide)
theorem two_w : RowW twoW 4503599627370496 (-51) := row_w 4503599627370496 1023 (by decide) (by decide) (by decide)
theorem lnM0_w (x : Nat) (h0 : mnt x ≠ 0) : RowW (lnM0 x) (lnR x) (-52) := by
  obtain ⟨a, b, _, _⟩ := lnR_bd x h0
  have := row_w (lnR x) 1022 a b (by decide)
  rw [(lnM0_row x h0).1]
  exact this

/-- Half of a row, by dividing and by multiplying. -/
theorem div_two (w M : Nat) (h : RowW w M (-52)) (h1 : 4503599627370496 ≤ M) (h2 : M < 9007199254740992) : dbl.div w twoW = some (dbl.nearest false M (-53)) ∧ dbl.mul w halfW = some (dbl.nearest false M (-53)) := by
  constructor
  · unfold Ieee.Format.div
    rw [read_fin w h.w h.f, read_fin twoW two_w.w two_w.f, h.m, h.e, h.g, two_w.m, two_w.e, two_w.g]
    simp only [Ieee.Datum.quotient]
    have hl : M.log2 = 52 := by
      have hb : bl M = 53 := bl_eq (by rw [show 2 ^ 52 = 4503599627370496 by decide]; exact h1) (by rw [show 2 ^ (52 + 1) = 9007199254740992 by decide]; exact h2)
      unfold bl at hb; rw [if_neg (by omega)] at hb; omega
    rw [if_neg (by decide), hl, show dbl.fractionBits + 2 + Nat.log2 4503599627370496 - 52 = 54 by decide, Nat.shiftLeft_eq]
    have e : M * 2 ^ 54 = M * 4 * 4503599627370496 := by rw [show (2 : Nat) ^ 54 = 4 * 4503599627370496 by decide, Nat.mul_assoc]
    rw [e, Nat.mul_div_cancel _ (by decide), Nat.mul_mod_left]
    simp only [Option.map_some, write_num, Bool.false_xor, bne_self_eq_false, Bool.toNat_false, Nat.add_zero]
    congr 1
    have := nearest_scale false M 3 (-53) (by omega)
    rw [show (-53 : Int) - ((3 : Nat) : Int) = -56 by decide, show M * 2 ^ 3 = 2 * (M * 4) by rw [show (2 : Nat) ^ 3 = 8 by decide]; omega] at this
    exact this
  · unfold Ieee.Format.mul
    rw [read_fin w h.w h.f, read_fin halfW half_w.w half_w.f, h.m, h.e, h.g, half_w.m, half_w.e, half_w.g]
    simp only [Ieee.Datum.product, Option.map_some, write_num, Bool.false_xor]
    congr 1
    have := nearest_scale false M 52 (-53) (by omega)
    rw [show (2 : Nat) ^ 52 = 4503599627370496 by decide] at this
    exact this

theorem lnN_bd (x : Nat) (h : fin x = true) (h0 : mnt x ≠ 0) : -1100 ≤ lnN x ∧ lnN x ≤ 1100 := by
  have a := exq_bd x h
  obtain ⟨_, _, c, d⟩ := lnR_bd x h0
  unfold lnN lnK
  split <;> omega

end Go.Proofs.Yteikihidblcljaa
