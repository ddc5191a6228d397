/- Plain: products and quotients by reals. No program. -/
import Derived.Test.YtjhkjekbadbgnaaAq
namespace Go.Proofs.Ytjhkjekbadbgnaa
set_option linter.unusedVariables false

/-- The sign of a product, as bits. -/
def sgw (u v : Nat) : Nat := if ng u != ng v then 9223372036854775808 else 0
theorem word_sgw (u v r : Nat) : dbl.word (ng u ^^ ng v) r = sgw u v + r := by
  unfold Ieee.Format.word sgw
  rw [dbl_sw]
  cases ng u <;> cases ng v <;> simp

theorem mg_madeN (s : Bool) (r : Nat) : mg (madeN s r) = min r 9218868437227405312 := by
  have e : ∀ y, mg y = y % 9223372036854775808 := fun y => by unfold mg; rfl
  rw [e]; unfold madeN
  cases s <;> simp <;> omega

theorem fmul_nl (u v : Nat) (hu : F64 u) (h : nn u = true) : fmul u v = NaNc := by
  obtain ⟨s, t, r⟩ := read_nan u hu h
  unfold fmul Ieee.Format.mul; rw [r, product_nan_l]; rfl
theorem fmul_nr (u v : Nat) (hv : F64 v) (h : nn v = true) : fmul u v = NaNc := by
  obtain ⟨s, t, r⟩ := read_nan v hv h
  unfold fmul Ieee.Format.mul; rw [r, product_nan_r]; rfl
theorem fmul_ii (u v : Nat) (hu : F64 u) (hv : F64 v) (h : inf u = true) (h' : inf v = true) : fmul u v = sgw u v + 9218868437227405312 := by
  unfold fmul Ieee.Format.mul
  rw [read_infb u hu h, read_infb v hv h']
  simp only [Ieee.Datum.product, Option.map_some, Option.getD_some]
  rw [← word_sgw, ← dbl_inf]; rfl
theorem fmul_if (u v : Nat) (hu : F64 u) (hv : F64 v) (h : inf u = true) (h' : fin v = true) : fmul u v = if mg v = 0 then NaNc else sgw u v + 9218868437227405312 := by
  unfold fmul Ieee.Format.mul
  rw [read_infb u hu h, read_fin v hv h']
  simp only [Ieee.Datum.product]
  by_cases h0 : mg v = 0
  · rw [if_pos ((mnt_zero v).2 h0), if_pos h0]; rfl
  · rw [if_neg (fun h => h0 ((mnt_zero v).1 h)), if_neg h0]
    simp only [Option.map_some, Option.getD_some]
    rw [← word_sgw, ← dbl_inf]; rfl
theorem fmul_fi (u v : Nat) (hu : F64 u) (hv : F64 v) (h : fin u = true) (h' : inf v = true) : fmul u v = if mg u = 0 then NaNc else sgw u v + 9218868437227405312 := by
  unfold fmul Ieee.Format.mul
  rw [read_infb v hv h', read_fin u hu h]
  simp only [Ieee.Datum.product]
  by_cases h0 : mg u = 0
  · rw [if_pos ((mnt_zero u).2 h0), if_pos h0]; rfl
  · rw [if_neg (fun h => h0 ((mnt_zero u).1 h)), if_neg h0]
    simp only [Option.map_some, Option.getD_some]
    rw [show (ng v ^^ ng u) = (ng u ^^ ng v) from Bool.xor_comm _ _, ← word_sgw, ← dbl_inf]; rfl
theorem fmul_ff (u v : Nat) (hu : F64 u) (hv : F64 v) (h : fin u = true) (h' : fin v = true) (s : Bool) :
    fmul u v = sgw u v + mg (nearM s (mnt u * mnt v) (if mnt u * mnt v = 0 then 0 else exr u + exr v) false) := by
  unfold fmul Ieee.Format.mul
  rw [read_fin u hu h, read_fin v hv h']
  simp only [Ieee.Datum.product, Option.map_some, Option.getD_some]
  rw [write_num]
  by_cases h0 : mnt u * mnt v = 0
  · rw [h0, nearest_zero]
    unfold nearM sgw
    rw [if_pos rfl, mg_0]
    cases ng u <;> cases ng v <;> rfl
  · have h1 : mnt u ≠ 0 := fun h => h0 (by rw [h, Nat.zero_mul])
    have h2 : mnt v ≠ 0 := fun h => h0 (by rw [h, Nat.mul_zero])
    rw [if_neg h0]
    unfold exr
    rw [if_neg h1, if_neg h2]
    unfold nearM
    rw [if_neg h0, mg_madeN, nearest_rnd _ _ _ h0, word_sgw]

theorem fdiv_nl (u v : Nat) (hu : F64 u) (h : nn u = true) : fdiv u v = NaNc := by
  obtain ⟨s, t, r⟩ := read_nan u hu h
  unfold fdiv Ieee.Format.div; rw [r, quotient_nan_l]; rfl
theorem fdiv_nr (u v : Nat) (hv : F64 v) (h : nn v = true) : fdiv u v = NaNc := by
  obtain ⟨s, t, r⟩ := read_nan v hv h
  unfold fdiv Ieee.Format.div; rw [r, quotient_nan_r]; rfl
theorem fdiv_ii (u v : Nat) (hu : F64 u) (hv : F64 v) (h : inf u = true) (h' : inf v = true) : fdiv u v = NaNc := by
  unfold fdiv Ieee.Format.div
  rw [read_infb u hu h, read_infb v hv h']; rfl
theorem fdiv_if (u v : Nat) (hu : F64 u) (hv : F64 v) (h : inf u = true) (h' : fin v = true) : fdiv u v = sgw u v + 9218868437227405312 := by
  unfold fdiv Ieee.Format.div
  rw [read_infb u hu h, read_fin v hv h']
  simp only [Ieee.Datum.quotient, Option.map_some, Option.getD_some]
  rw [← word_sgw, ← dbl_inf]; rfl
theorem fdiv_fi (u v : Nat) (hu : F64 u) (hv : F64 v) (h : fin u = true) (h' : inf v = true) : fdiv u v = sgw u v := by
  unfold fdiv Ieee.Format.div
  rw [read_infb v hv h', read_fin u hu h]
  simp only [Ieee.Datum.quotient, Option.map_some, Option.getD_some]
  rw [write_num, nearest_zero]
  unfold sgw
  cases ng u <;> cases ng v <;> rfl
theorem fdiv_f0 (u v : Nat) (hu : F64 u) (hv : F64 v) (h : fin u = true) (h' : fin v = true) (hz : mg v = 0) : fdiv u v = if mg u = 0 then NaNc else sgw u v + 9218868437227405312 := by
  unfold fdiv Ieee.Format.div
  rw [read_fin u hu h, read_fin v hv h']
  simp only [Ieee.Datum.quotient]
  rw [if_pos ((mnt_zero v).2 hz)]
  by_cases h0 : mg u = 0
  · rw [if_pos ((mnt_zero u).2 h0), if_pos h0]; rfl
  · rw [if_neg (fun h => h0 ((mnt_zero u).1 h)), if_neg h0]
    simp only [Option.map_some, Option.getD_some]
    rw [← word_sgw, ← dbl_inf]; rfl

/-- The quotient's digits: 16 more make nothing. -/
theorem quot_rnd (m n : Nat) (i j : Int) (hm : m ≠ 0) (hn : n ≠ 0) (hs : m < 9007199254740992) :
    rnd (2 * (m * 2 ^ (54 + n.log2 - m.log2) / n) + (m * 2 ^ (54 + n.log2 - m.log2) % n != 0).toNat) (i - j - (54 + n.log2 - m.log2 : Nat) - 1) false =
    rnd (m * 2 ^ ovK m n / n) (i - ovK m n - j) (nz (m * 2 ^ ovK m n % n)) := by
  have lm : m.log2 ≤ 52 := by
    have := (Nat.log2_lt hm).2 (show m < 2 ^ 53 by rw [show 2 ^ 53 = 9007199254740992 by decide]; exact hs)
    omega
  have hk : ovK m n = (54 + n.log2 - m.log2) + 16 := by
    unfold ovK bl; rw [if_neg hm, if_neg hn]; omega
  rw [hk]
  generalize hK : 54 + n.log2 - m.log2 = K
  have hX : 2 ^ (54 + n.log2) ≤ m * 2 ^ K := by
    have : 2 ^ m.log2 ≤ m := Nat.log2_self_le hm
    calc 2 ^ (54 + n.log2) = 2 ^ m.log2 * 2 ^ K := by rw [← Nat.pow_add]; congr 1; omega
      _ ≤ m * 2 ^ K := Nat.mul_le_mul_right _ this
  have hQ : 54 ≤ bl (m * 2 ^ K / n) := by
    have h1 : n < 2 ^ (n.log2 + 1) := Nat.lt_log2_self
    have h2 : 2 ^ 53 ≤ m * 2 ^ K / n := by
      rw [Nat.le_div_iff_mul_le (by omega)]
      refine Nat.le_trans ?_ hX
      rw [show 54 + n.log2 = 53 + (n.log2 + 1) by omega, Nat.pow_add 2 53]
      exact Nat.mul_le_mul_left _ (by omega)
    refine Nat.le_of_not_lt fun hc => ?_
    have h3 := bl_lt (m * 2 ^ K / n)
    have h4 : 2 ^ bl (m * 2 ^ K / n) ≤ 2 ^ 53 := Nat.pow_le_pow_right (by decide) (by omega)
    omega
  have e16 : m * 2 ^ (K + 16) = m * 2 ^ K * 2 ^ 16 := by rw [Nat.pow_add, Nat.mul_assoc]
  rw [e16]
  generalize m * 2 ^ K = X at *
  generalize hq : X / n = Q at *
  have hX2 := Nat.div_add_mod X n
  rw [hq] at hX2
  have hpn : 0 < n := by omega
  have l1 : X % n < n := Nat.mod_lt _ hpn
  -- the kit's
  have s1 : rnd (2 * Q + (X % n != 0).toNat) (i - j - K - 1) false = rnd Q (i - j - K) (nz (X % n)) := by
    have hh : (2 * Q + (X % n != 0).toNat) / 2 ^ 1 = Q := by
      rw [Nat.pow_one]; have : (X % n != 0).toNat ≤ 1 := by cases (X % n != 0) <;> decide
      omega
    have := rnd_sticky (2 * Q + (X % n != 0).toNat) 1 (i - j - K) false (nz (X % n)) (by rw [hh]; exact hQ) (by
      rw [nz_iff, Nat.pow_one]
      by_cases h0 : X % n = 0
      · rw [h0]; simp
      · rw [show (X % n != 0) = true by rw [bne_iff_ne]; exact h0]
        constructor
        · intro _; left; show (2 * Q + 1) % 2 ≠ 0; omega
        · intro _; exact h0)
    rw [hh] at this
    exact this
  have d16 : X * 2 ^ 16 / n / 2 ^ 16 = Q := by
    rw [Nat.div_div_eq_div_mul, Nat.mul_comm n, ← Nat.div_div_eq_div_mul, Nat.mul_div_cancel _ (by decide), hq]
  have s2 : rnd (X * 2 ^ 16 / n) (i - j - K - 16) (nz (X * 2 ^ 16 % n)) = rnd Q (i - j - K) (nz (X % n)) := by
    have := rnd_sticky (X * 2 ^ 16 / n) 16 (i - j - K) (nz (X * 2 ^ 16 % n)) (nz (X % n)) (by rw [d16]; exact hQ) (by
      rw [nz_iff, nz_iff]
      have a1 := Nat.div_add_mod (X * 2 ^ 16) n
      have a2 := Nat.div_add_mod (X * 2 ^ 16 / n) (2 ^ 16)
      rw [d16] at a2
      constructor
      · intro h0
        refine Decidable.byContradiction fun hc => ?_
        have b1 : X * 2 ^ 16 / n % 2 ^ 16 = 0 := Decidable.byContradiction fun h => hc (.inl h)
        have b2 : X * 2 ^ 16 % n = 0 := Decidable.byContradiction fun h => hc (.inr h)
        rw [b1, Nat.add_zero] at a2
        rw [b2, Nat.add_zero, ← a2] at a1
        have a3 : X = n * Q := by
          refine Nat.eq_of_mul_eq_mul_right (show 0 < 2 ^ 16 by decide) ?_
          rw [← a1, Nat.mul_assoc, Nat.mul_comm Q]
        omega
      · intro h h0
        have a3 : X = n * Q := by omega
        have a4 : X * 2 ^ 16 = n * (Q * 2 ^ 16) := by rw [a3, Nat.mul_assoc]
        rw [a4, Nat.mul_div_cancel_left _ hpn, Nat.mul_mod_left, Nat.mul_mod_right] at h
        rcases h with h | h <;> exact h rfl)
    rw [d16] at this
    exact this
  rw [s1, show i - ((K + 16 : Nat) : Int) - j = i - j - K - 16 by omega, s2]

theorem quot_pos (m n : Nat) (hm : m ≠ 0) (hn : n ≠ 0) (hs : m < 9007199254740992) : m * 2 ^ (54 + n.log2 - m.log2) / n ≠ 0 ∧ m * 2 ^ ovK m n / n ≠ 0 := by
  have lm : m.log2 ≤ 52 := by
    have := (Nat.log2_lt hm).2 (show m < 2 ^ 53 by rw [show 2 ^ 53 = 9007199254740992 by decide]; exact hs)
    omega
  have hk : ovK m n = (54 + n.log2 - m.log2) + 16 := by
    unfold ovK bl; rw [if_neg hm, if_neg hn]; omega
  have h0 : 2 ^ m.log2 ≤ m := Nat.log2_self_le hm
  have h1 : n < 2 ^ (n.log2 + 1) := Nat.lt_log2_self
  have key : ∀ k, n.log2 + 1 ≤ m.log2 + k → m * 2 ^ k / n ≠ 0 := fun k hk => by
    have h2 : 2 ^ (n.log2 + 1) ≤ 2 ^ m.log2 * 2 ^ k := by rw [← Nat.pow_add]; exact Nat.pow_le_pow_right (by decide) hk
    have h3 : 2 ^ m.log2 * 2 ^ k ≤ m * 2 ^ k := Nat.mul_le_mul_right _ h0
    have := Nat.div_pos (show n ≤ m * 2 ^ k by omega) (by omega)
    omega
  exact ⟨key _ (by omega), key _ (by omega)⟩

theorem fdiv_ff (u v : Nat) (hu : F64 u) (hv : F64 v) (h : fin u = true) (h' : fin v = true) (hz : mg v ≠ 0) (s : Bool) :
    fdiv u v = sgw u v + mg (overN s (mnt u) (exr u) (mnt v) (exr v)) := by
  have hn : mnt v ≠ 0 := fun h => hz ((mnt_zero v).1 h)
  unfold fdiv Ieee.Format.div
  rw [read_fin u hu h, read_fin v hv h']
  simp only [Ieee.Datum.quotient]
  rw [if_neg hn]
  simp only [Option.map_some, Option.getD_some]
  rw [write_num]
  unfold overN
  by_cases h0 : mnt u = 0
  · rw [if_pos h0, h0, mg_0]
    rw [show (2 * (0 <<< (dbl.fractionBits + 2 + (mnt v).log2 - Nat.log2 0) / mnt v) + (0 <<< (dbl.fractionBits + 2 + (mnt v).log2 - Nat.log2 0) % mnt v != 0).toNat) = 0 by
      rw [Nat.zero_shiftLeft, Nat.zero_div, Nat.zero_mod]; rfl]
    rw [nearest_zero]
    unfold sgw
    cases ng u <;> cases ng v <;> rfl
  · rw [if_neg h0, Nat.shiftLeft_eq]
    have e1 : exr u = exq u := by unfold exr; rw [if_neg h0]
    have e2 : exr v = exq v := by unfold exr; rw [if_neg hn]
    rw [e1, e2]
    have hq := quot_rnd (mnt u) (mnt v) (exq u) (exq v) h0 hn (mnt_lt u)
    obtain ⟨p1, p2⟩ := quot_pos (mnt u) (mnt v) h0 hn (mnt_lt u)
    rw [show dbl.fractionBits + 2 = 54 from rfl]
    unfold nearM
    rw [if_neg p2, mg_madeN, nearest_rnd _ _ _ (by omega), word_sgw, hq]

end Go.Proofs.Ytjhkjekbadbgnaa
