/- Plain: doubling goes through sums, values held between two, and exact sums divided. No program. -/
import Derived.Test.YteikihidblcljaaWcC
import Derived.Test.YteikihidblcljaaM12
namespace Go.Proofs.Yteikihidblcljaa
set_option linter.unusedSimpArgs false
set_option linter.unusedVariables false

theorem VV_up {r : Nat} (h : 4503599627370496 ≤ r) : VV (r + 4503599627370496) = VV r * 2 := by
  unfold VV
  rw [if_neg (by omega), if_neg (by omega)]
  have h1 : 1 ≤ r / 4503599627370496 := by rw [Nat.le_div_iff_mul_le (by decide)]; omega
  rw [show (r + 4503599627370496) % 4503599627370496 = r % 4503599627370496 by omega, show (r + 4503599627370496) / 4503599627370496 - 1 = (r / 4503599627370496 - 1) + 1 by omega, Nat.pow_succ, Nat.mul_assoc]
theorem Tw.sv {x y : Nat} (t : Tw x y) : SV y = 2 * SV x := by
  rw [SV_sg, SV_sg]
  rcases t.way with ⟨a, b⟩ | ⟨a, b, c⟩
  · rw [a, b, VV_zero]; unfold sg; split <;> split <;> rfl
  · rw [b, c, VV_up a]
    unfold sg
    split
    · omega
    · omega
/-- 2^n, in units of 2^-1074 less 1023 places. -/
@[irreducible] def Q51 (n : Nat) : Nat := 2 ^ (n + 51)
theorem Q51_def (n : Nat) : Q51 n = 2 ^ (n + 51) := by unfold Q51; rfl
theorem Q51_pos (n : Nat) : 0 < Q51 n := by rw [Q51_def]; exact Nat.pow_pos (by decide)
theorem Q51_le {a b : Nat} (h : a ≤ b) : Q51 a ≤ Q51 b := by rw [Q51_def, Q51_def]; exact Nat.pow_le_pow_right (by decide) (by omega)
theorem Q51_lt {a b : Nat} (h : a < b) : Q51 a < Q51 b := by rw [Q51_def, Q51_def]; exact Nat.pow_lt_pow_right (by decide) (by omega)
theorem Q51_two (a : Nat) : Q51 a + Q51 a = Q51 (a + 1) := by
  have h : (2 : Nat) ^ (a + 51 + 1) = 2 ^ (a + 51) * 2 := Nat.pow_succ 2 (a + 51)
  rw [Q51_def, Q51_def, show a + 1 + 51 = a + 51 + 1 by omega, h]
  exact (Nat.mul_two _).symm
theorem Q51_dbl (a : Nat) : Q51 (a + 1) = 2 * Q51 a := by have := Q51_two a; omega
theorem Q51_pow (a b : Nat) : Q51 a * 2 ^ b = Q51 (a + b) := by rw [Q51_def, Q51_def, ← Nat.pow_add]; congr 1; omega
theorem Q51_mul (a b : Nat) : Q51 a * Q51 b = Q51 (a + b + 51) := by rw [Q51_def, Q51_def, Q51_def, ← Nat.pow_add]; congr 1; omega
theorem Q51_le_pow {a b : Nat} (h : a + 51 ≤ b) : Q51 a ≤ 2 ^ b := by rw [Q51_def]; exact Nat.pow_le_pow_right (by decide) h
theorem pow_le_P2 {a b : Nat} (h : b ≤ a + 51) : 2 ^ b ≤ Q51 a := by rw [Q51_def]; exact Nat.pow_le_pow_right (by decide) h
theorem VV_row (k : Nat) (h : 1 ≤ k) : VV (k * 4503599627370496) = Q51 k := by
  rw [Q51_def]
  unfold VV
  rw [if_neg (by omega), Nat.mul_mod_left, Nat.mul_div_cancel _ (by decide), Nat.add_zero, show k + 51 = 52 + (k - 1) by omega, Nat.pow_add]
theorem VV_le {r s : Nat} (h : r ≤ s) : VV r ≤ VV s := by
  rcases Nat.lt_or_ge r s with h1 | h1
  · exact Nat.le_of_lt (VV_mono h1)
  · rw [show r = s by omega]; exact Nat.le_refl _
theorem SV_abs (x : Nat) : (SV x).natAbs = VV (mg x) := by rw [SV_sg]; unfold sg; split <;> omega
theorem Rg.sv {x lo hi : Nat} (r : Rg x lo hi) (h1 : 1 ≤ lo) (hh : 1 ≤ hi) : SV x = 0 ∨ (Q51 lo ≤ (SV x).natAbs ∧ (SV x).natAbs ≤ Q51 hi) := by
  rcases r.way with h | ⟨a, b⟩
  · exact Or.inl (SV_mg0' x h)
  · rw [SV_abs, ← VV_row lo h1, ← VV_row hi hh]
    exact Or.inr ⟨VV_le a, VV_le b⟩
theorem mg_of_rk {x : Nat} {r : Int} (h : rk x = r) : mg x = r.natAbs ∧ (r ≠ 0 → ng x = decide (r < 0)) := by
  unfold rk at h
  split at h
  · next hn => exact ⟨by omega, fun h0 => by rw [hn]; symm; simp; omega⟩
  · next hn => exact ⟨by omega, fun h0 => by rw [show ng x = false by simpa using hn]; symm; simp; omega⟩
theorem rk_min {x R : Nat} {z : Int} (h : rk x = if z < 0 then -((min R 9218868437227405312 : Nat) : Int) else ((min R 9218868437227405312 : Nat) : Int)) : mg x = min R 9218868437227405312 ∧ (R ≠ 0 → ng x = decide (z < 0)) := by
  have hm : R ≠ 0 → min R 9218868437227405312 ≠ 0 := fun h0 => by omega
  generalize min R 9218868437227405312 = m at *
  obtain ⟨p1, p2⟩ := mg_of_rk h
  by_cases hc : z < 0
  · rw [if_pos hc] at p1 p2
    refine ⟨by omega, fun h0 => ?_⟩
    have := hm h0
    rw [p2 (by omega), decide_eq_true hc, decide_eq_true (by omega)]
  · rw [if_neg hc] at p1 p2
    refine ⟨by omega, fun h0 => ?_⟩
    have := hm h0
    rw [p2 (by omega), decide_eq_false hc, decide_eq_false (by omega)]
/-- Two numbers that are an exact number, rounded, and its double. -/
theorem tw_rz {x y : Nat} {z : Int} (fx : F64 x) (fy : F64 y) (hx : rk x = rz (-1074) z) (hy : rk y = rz (-1074) (2 * z)) (L H : Nat) (h1 : 1 ≤ L) (hH : H ≤ 2045) (hz : z = 0 ∨ (Q51 L ≤ z.natAbs ∧ z.natAbs < Q51 H)) : Tw x y ∧ Rg x L H := by
  rw [Q51_def, Q51_def] at hz
  rcases hz with hz | ⟨a, b⟩
  · subst hz
    rw [rz_zero _ (by decide)] at hx
    rw [show (2 : Int) * 0 = 0 from rfl, rz_zero _ (by decide)] at hy
    have p := (mg_of_rk hx).1
    have q := (mg_of_rk hy).1
    have p' : mg x = 0 := by simpa using p
    have q' : mg y = 0 := by simpa using q
    exact ⟨⟨fx, fy, Or.inl ⟨p', q'⟩, by omega⟩, fx, Or.inl p'⟩
  · have z0 : z ≠ 0 := fun e => by
      rw [e] at a
      have := Nat.pow_pos (n := L + 51) (show 0 < 2 by decide)
      simp at a
    have d0 : z.natAbs ≠ 0 := by omega
    have bL : L + 52 ≤ bl z.natAbs := by
      refine Nat.le_of_not_lt fun hc => ?_
      have g1 := bl_lt z.natAbs
      have g2 : 2 ^ bl z.natAbs ≤ 2 ^ (L + 51) := Nat.pow_le_pow_right (by decide) (by omega)
      omega
    have bH : bl z.natAbs ≤ H + 51 := bl_le b
    have hp : rnd z.natAbs (-1074) false ≠ 0 := by
      have r1 := (rnd_row2 z.natAbs (-1074) false d0 (by omega)).1
      have pos : 1 ≤ ((bl z.natAbs : Int) + -1074 + 1022).toNat := by omega
      generalize ((bl z.natAbs : Int) + -1074 + 1022).toNat = p at *
      generalize rnd z.natAbs (-1074) false = R at *
      clear bL bH a b
      omega
    have two : rnd (2 * z).natAbs (-1074) false = rnd z.natAbs (-1074 + 1) false := by
      have := rnd_scale z.natAbs 1 (-1074 + 1) d0
      rw [show (-1074 : Int) + 1 - ((1 : Nat) : Int) = -1074 by decide] at this
      rw [← this]
      congr 1
      omega
    have up := rnd_up z.natAbs (-1074) false (by omega)
    have hx' : rk x = if z < 0 then -((min (rnd z.natAbs (-1074) false) 9218868437227405312 : Nat) : Int) else ((min (rnd z.natAbs (-1074) false) 9218868437227405312 : Nat) : Int) := by rw [hx]; rfl
    have hy' : rk y = if z < 0 then -((min (rnd z.natAbs (-1074 + 1) false) 9218868437227405312 : Nat) : Int) else ((min (rnd z.natAbs (-1074 + 1) false) 9218868437227405312 : Nat) : Int) := by
      rw [hy]; unfold rz; rw [two]
      by_cases hc : z < 0
      · rw [if_pos hc, if_pos (by omega)]
      · rw [if_neg hc, if_neg (by omega)]
    obtain ⟨e1, p2⟩ := rk_min hx'
    obtain ⟨e2, q2⟩ := rk_min hy'
    have hp2 : rnd z.natAbs (-1074 + 1) false ≠ 0 := by rw [up]; omega
    have e3 : ng y = ng x := by rw [p2 hp, q2 hp2]
    have r := tw_made fx fy e3 z.natAbs (-1074) false d0 e1 e2 L H h1 hH (by omega) (by omega)
    exact ⟨r.1, r.2.1⟩
theorem tw_add {u u' v v' : Nat} (t : Tw u u') (s : Tw v v') (L H : Nat) (h1 : 1 ≤ L) (hH : H ≤ 2045) (hz : SV u + SV v = 0 ∨ (Q51 L ≤ (SV u + SV v).natAbs ∧ (SV u + SV v).natAbs < Q51 H)) : Tw (fadd u v) (fadd u' v') ∧ Rg (fadd u v) L H := by
  refine tw_rz (F64_fadd _ _) (F64_fadd _ _) (rk_fadd u v t.fx s.fx t.finx s.finx).1 ?_ L H h1 hH hz
  rw [(rk_fadd u' v' t.fy s.fy t.finy s.finy).1, t.sv, s.sv, ← Int.mul_add]
theorem tw_sub {u u' v v' : Nat} (t : Tw u u') (s : Tw v v') (L H : Nat) (h1 : 1 ≤ L) (hH : H ≤ 2045) (hz : SV u - SV v = 0 ∨ (Q51 L ≤ (SV u - SV v).natAbs ∧ (SV u - SV v).natAbs < Q51 H)) : Tw (fsub u v) (fsub u' v') ∧ Rg (fsub u v) L H := by
  refine tw_rz (F64_fsub _ _) (F64_fsub _ _) (rk_fsub u v t.fx s.fx t.finx s.finx).1 ?_ L H h1 hH hz
  rw [(rk_fsub u' v' t.fy s.fy t.finy s.finy).1, t.sv, s.sv, ← Int.mul_sub]

/-- Order. -/
theorem Tw.lt {u u' v v' : Nat} (t : Tw u u') (s : Tw v v') : ltF u' v' = ltF u v ∧ (rk u' = rk v' ↔ rk u = rk v) := by
  have h1 := t.sv
  have h2 := s.sv
  have a := @SV_lt u v
  have b := @SV_lt u' v'
  have c := @SV_lt v u
  have d := @SV_lt v' u'
  have n1 := nn_fin _ t.finx
  have n2 := nn_fin _ t.finy
  have n3 := nn_fin _ s.finx
  have n4 := nn_fin _ s.finy
  refine ⟨?_, by omega⟩
  unfold ltF
  rw [n1, n2, n3, n4]
  simp only [Bool.not_false, Bool.true_and]
  exact decide_eq_decide.2 (by omega)
theorem tw_hld {v v' a a' b b' : Nat} (tv : Tw v v') (ta : Tw a a') (tb : Tw b b') : Tw (hld v a b) (hld v' a' b') := by
  unfold hld
  rw [(tb.lt ta).1, (tv.lt tb).1, (ta.lt tv).1, (tv.lt ta).1]
  have e := (ta.lt tb).2
  by_cases h : rk a = rk b
  · rw [if_pos h, if_pos (e.2 h), (ta.lt tv).1]
    repeat' split
    all_goals assumption
  · rw [if_neg h, if_neg (fun x => h (e.1 x)), (tb.lt tv).1]
    repeat' split
    all_goals assumption

theorem half_sticky (a n : Nat) (hn : 0 < n) : 2 * a / n / 2 ^ 1 = a / n ∧ (nz (a % n) = true ↔ (2 * a / n % 2 ^ 1 ≠ 0 ∨ nz (2 * a % n) = true)) := by
  refine ⟨?_, ?_⟩
  · rw [Nat.div_div_eq_div_mul, Nat.pow_one, Nat.mul_comm n 2, Nat.mul_div_mul_left _ _ (by decide)]
  · rw [nz_iff, nz_iff]
    have h1 := Nat.div_add_mod a n
    have h2 := Nat.div_add_mod (2 * a) n
    have h3 : 2 * a / n / 2 = a / n := by rw [Nat.div_div_eq_div_mul, Nat.mul_comm n 2, Nat.mul_div_mul_left _ _ (by decide)]
    have h4 := Nat.mod_lt a hn
    have h5 := Nat.mod_lt (2 * a) hn
    generalize 2 * a / n = q at *
    generalize a / n = p at *
    generalize 2 * a % n = s at *
    generalize a % n = r at *
    have h6 : q = 2 * p ∨ q = 2 * p + 1 := by omega
    rw [Nat.pow_one]
    rcases h6 with e | e
    · rw [e] at h2 ⊢
      rw [Nat.mul_left_comm] at h2
      have : n * p = a - r := by omega
      omega
    · rw [e] at h2 ⊢
      rw [Nat.mul_add, Nat.mul_left_comm, Nat.mul_one] at h2
      omega
/-- The exact sum doubled, over a whole number. -/
theorem tw_over {z : Int} {n : Nat} (hn : 1 ≤ n) (L H : Nat) (h1 : 1 ≤ L) (hH : H ≤ 2045) (hz : z = 0 ∨ (Q51 (L + 1074) * n ≤ z.natAbs ∧ z.natAbs < Q51 (H + 1074) * n)) : Tw (overA z false false n) (overA (2 * z) false false n) ∧ Rg (overA z false false n) L H := by
  rw [Q51_def, Q51_def, show L + 1074 + 51 = L + 1125 by omega, show H + 1074 + 51 = H + 1125 by omega] at hz
  have hm : ∀ z : Int, mg (overA z false false n) = min (rnd (z.natAbs / n) (-2148) (nz (z.natAbs % n))) 9218868437227405312 ∧ ng (overA z false false n) = decide (z < 0) := fun z => by
    unfold overA nearZ
    simp only [Bool.false_and, Bool.false_eq_true, if_false]
    refine ⟨mg_madeN _ _, ?_⟩
    rw [madeN_word]
    exact (rk_word _ _ (Nat.min_le_right _ _)).2.2.2
  obtain ⟨p1, p2⟩ := hm z
  obtain ⟨q1, q2⟩ := hm (2 * z)
  have fx := F64_overA z false false n
  have fy := F64_overA (2 * z) false false n
  rcases hz with hz | ⟨a, b⟩
  · subst hz
    have r0 : ∀ m, rnd 0 (-2148) m = 0 := fun m => rnd_small (by rw [show bl 0 = 0 from rfl]; omega)
    rw [show (0 : Int).natAbs = 0 from rfl, Nat.zero_div, r0] at p1
    rw [show ((2 : Int) * 0).natAbs = 0 from rfl, Nat.zero_div, r0] at q1
    exact ⟨⟨fx, fy, Or.inl ⟨by omega, by omega⟩, by omega⟩, fx, Or.inl (by omega)⟩
  · have d1 : 2 ^ (L + 1125) ≤ z.natAbs / n := by rw [Nat.le_div_iff_mul_le (by omega)]; exact a
    have d2 : z.natAbs / n < 2 ^ (H + 1125) := by rw [Nat.div_lt_iff_lt_mul (by omega)]; exact b
    have dp0 := Nat.pow_pos (n := L + 1125) (show 0 < 2 by decide)
    have d0 : z.natAbs / n ≠ 0 := by omega
    have bL : L + 1126 ≤ bl (z.natAbs / n) := by
      refine Nat.le_of_not_lt fun hc => ?_
      have g1 := bl_lt (z.natAbs / n)
      have g2 : 2 ^ bl (z.natAbs / n) ≤ 2 ^ (L + 1125) := Nat.pow_le_pow_right (by decide) (by omega)
      omega
    have bH : bl (z.natAbs / n) ≤ H + 1125 := bl_le d2
    obtain ⟨s1, s2⟩ := half_sticky z.natAbs n (by omega)
    have st := rnd_sticky (2 * z.natAbs / n) 1 (-2148 + 1) (nz (2 * z.natAbs % n)) (nz (z.natAbs % n)) (by rw [s1]; omega) s2
    rw [s1, show (-2148 : Int) + 1 - ((1 : Nat) : Int) = -2148 by decide] at st
    rw [show (2 * z).natAbs = 2 * z.natAbs by omega, st] at q1
    have r := tw_made fx fy (by rw [p2, q2]; exact decide_eq_decide.2 (by omega)) (z.natAbs / n) (-2148) _ d0 p1 q1 L H h1 hH (by omega) (by omega)
    exact ⟨r.1, r.2.1⟩
/-- Twice, by a product. -/
theorem tw_two {x y : Nat} (t : Tw x y) : rk (fmul two64f x) = rk y := by
  obtain ⟨t1, t2, _, _⟩ := two_ok
  have hs : SV two64f = 2 * (U1 : Int) := by decide +kernel
  rw [(rk_fmul two64f x t1 t.fx t2 t.finx).1, hs, show 2 * (U1 : Int) * SV x = 2 * SV x * (U1 : Int) by rw [Int.mul_right_comm], rz_U1, ← t.sv, rz_SV y t.finy]

end Go.Proofs.Yteikihidblcljaa
