/- Plain: what bisection finds is where the signs change. No program. -/
import Derived.Test.YtjhkjekbadbgnaaBi
namespace Go.Proofs.Ytjhkjekbadbgnaa

/-- A value with the sign sa, and one with the other sign. -/
structure SgP (sa : Bool) (v : Nat) : Prop where
  nn : nn v = false
  nz : rk v ≠ 0
  sg : decide (0 < rk v) = sa
structure SgQ (sa : Bool) (v : Nat) : Prop where
  nn : nn v = false
  nz : rk v ≠ 0
  sg : decide (0 < rk v) ≠ sa

structure BisOk (g : Nat → Nat) (sa : Bool) (lo hi : Nat) (x : Nat) : Prop where
  f64 : F64 x
  nan : nn x = false
  le1 : rk lo ≤ rk x
  le2 : rk x ≤ rk hi
  why : (nn (g x) = false ∧ rk (g x) = 0) ∨ (SgP sa (g x) ∧ ∃ h, SgQ sa (g h) ∧ rk h = rk x + 1 ∧ rk h ≤ rk hi ∧ (h = hi ∨ h = atk (rk h)))

theorem bis_spec (g : Nat → Nat) (sa : Bool) (hi0 : Nat) : ∀ k lo hi c, F64 lo → nn lo = false → nn hi = false → rk lo < rk hi → rk hi ≤ rk hi0 → (hi = hi0 ∨ hi = atk (rk hi)) → rk hi - rk lo ≤ 2 ^ k → SgP sa (g lo) → SgQ sa (g hi) →
    (bis g sa k lo hi c).2.1 ≤ c + k ∧ c ≤ (bis g sa k lo hi c).2.1 ∧ (((bis g sa k lo hi c).2.2 = 91 ∧ (bis g sa k lo hi c).1 = 0 ∧ ∃ y, nn (g y) = true) ∨ ((bis g sa k lo hi c).2.2 = 0 ∧ BisOk g sa lo hi0 (bis g sa k lo hi c).1)) := by
  intro k
  induction k with
  | zero =>
    intro lo hi c hf h1 h2 hlt hle heq hg hp hq
    have e : (2 : Int) ^ 0 = 1 := rfl
    refine ⟨Nat.le_refl _, Nat.le_refl _, Or.inr ⟨rfl, hf, h1, Int.le_refl _, ?_, Or.inr ⟨hp, hi, hq, ?_, hle, heq⟩⟩⟩
    · show rk lo ≤ rk hi0; omega
    · show rk hi = rk lo + 1; omega
  | succ k ih =>
    intro lo hi c hf h1 h2 hlt hle heq hg hp hq
    obtain ⟨m1, m2, m3⟩ := md_rk h1 h2
    by_cases he : rk (md lo hi) = rk lo
    · rw [bis_stop _ _ _ _ _ _ he]
      refine ⟨by dsimp only; omega, Nat.le_refl _, Or.inr ⟨rfl, hf, h1, Int.le_refl _, ?_, Or.inr ⟨hp, hi, hq, ?_, hle, heq⟩⟩⟩
      · show rk lo ≤ rk hi0; omega
      · show rk hi = rk lo + 1; omega
    · obtain ⟨b1, b2, b3, b4⟩ := md_bd h1 h2 hlt he hg
      have hat : md lo hi = atk (rk (md lo hi)) := by rw [m1]; rfl
      cases hn : nn (g (md lo hi))
      · by_cases hz : rk (g (md lo hi)) = 0
        · rw [bis_zero _ _ _ _ _ _ he hn hz]
          exact ⟨by dsimp only; omega, by dsimp only; omega, Or.inr ⟨rfl, m2, m3, Int.le_of_lt b1, by show rk (md lo hi) ≤ rk hi0; omega, Or.inl ⟨hn, hz⟩⟩⟩
        · by_cases hs : decide (0 < rk (g (md lo hi))) = sa
          · rw [bis_up _ _ _ _ _ _ he hn hz hs]
            obtain ⟨r1, r2, r3⟩ := ih (md lo hi) hi (c + 1) m2 m3 h2 b2 hle heq b4 ⟨hn, hz, hs⟩ hq
            refine ⟨by omega, by omega, ?_⟩
            rcases r3 with r3 | ⟨r3, r4⟩
            · exact Or.inl r3
            · exact Or.inr ⟨r3, r4.f64, r4.nan, Int.le_trans (Int.le_of_lt b1) r4.le1, r4.le2, r4.why⟩
          · rw [bis_dn _ _ _ _ _ _ he hn hz hs]
            obtain ⟨r1, r2, r3⟩ := ih lo (md lo hi) (c + 1) hf h1 m3 b1 (by omega) (Or.inr hat) b3 hp ⟨hn, hz, hs⟩
            exact ⟨by omega, by omega, r3⟩
      · rw [bis_nan _ _ _ _ _ _ he hn]
        exact ⟨by dsimp only; omega, by dsimp only; omega, Or.inl ⟨rfl, rfl, _, hn⟩⟩

/-- What Root tells. -/
inductive RootIs (g : Nat → Nat) (lo hi : Nat) (t : Nat × Nat × Int) : Prop where
  | arg (h : okEnds lo hi = false) (e : t = (0, 0, 1))
  | value (h : okEnds lo hi = true) (n : t.2.1 ≤ 66) (x : t.1 = 0) (e : t.2.2 = 91) (w : ∃ y, nn (g y) = true)
  | zero (h : okEnds lo hi = true) (n : t.2.1 ≤ 66) (e : t.2.2 = 0) (f : F64 t.1) (nan : nn t.1 = false) (l1 : rk lo ≤ rk t.1) (l2 : rk t.1 ≤ rk hi) (v : nn (g t.1) = false) (z : rk (g t.1) = 0)
  | bracket (h : okEnds lo hi = true) (e : t = (0, 2, 120)) (a : nn (g lo) = false) (b : nn (g hi) = false) (az : rk (g lo) ≠ 0) (bz : rk (g hi) ≠ 0) (s : decide (0 < rk (g lo)) = decide (0 < rk (g hi)))
  | found (h : okEnds lo hi = true) (n : t.2.1 ≤ 66) (e : t.2.2 = 0) (f : F64 t.1) (nan : nn t.1 = false) (l1 : rk lo ≤ rk t.1) (l2 : rk t.1 ≤ rk hi)
      (sa : Bool) (p : SgP sa (g t.1)) (u : Nat) (q : SgQ sa (g u)) (up : rk u = rk t.1 + 1) (le : rk u ≤ rk hi) (w : u = hi ∨ u = atk (rk u)) (s : decide (0 < rk (g lo)) = sa)

theorem okEnds_of {lo hi : Nat} (h : okEnds lo hi = true) : fin lo = true ∧ fin hi = true ∧ rk lo < rk hi := by
  unfold okEnds at h
  simp only [Bool.and_eq_true, decide_eq_true_eq] at h
  exact ⟨h.1.1, h.1.2, h.2⟩

theorem gap64 {x y : Nat} (h1 : nn x = false) (h2 : nn y = false) : rk y - rk x ≤ 2 ^ 64 := by
  have a := rk_bd x h1
  have b := rk_bd y h2
  omega

theorem root_is (g : Nat → Nat) (lo hi : Nat) (hlo : F64 lo) (hhi : F64 hi) : RootIs g lo hi (root g lo hi) := by
  unfold root
  cases hok : okEnds lo hi
  · exact .arg hok rfl
  obtain ⟨h1, h2, h3⟩ := okEnds_of hok
  have n1 := nn_fin lo h1
  have n2 := nn_fin hi h2
  rw [if_neg (by simp)]
  cases ha : nn (g lo)
  · rw [if_neg (by simp)]
    cases hb : nn (g hi)
    · rw [if_neg (by simp)]
      by_cases az : rk (g lo) = 0
      · rw [if_pos az]
        exact .zero hok (by dsimp only; omega) rfl hlo n1 (Int.le_refl _) (Int.le_of_lt h3) ha az
      · rw [if_neg az]
        by_cases bz : rk (g hi) = 0
        · rw [if_pos bz]
          exact .zero hok (by dsimp only; omega) rfl hhi n2 (Int.le_of_lt h3) (Int.le_refl _) hb bz
        · rw [if_neg bz]
          by_cases hs : decide (0 < rk (g lo)) = decide (0 < rk (g hi))
          · rw [if_pos hs]
            exact .bracket hok rfl ha hb az bz hs
          · rw [if_neg hs]
            obtain ⟨r1, r2, r3⟩ := bis_spec g (decide (0 < rk (g lo))) hi 64 lo hi 2 hlo n1 n2 h3 (Int.le_refl _) (Or.inl rfl) (gap64 n1 n2) ⟨ha, az, rfl⟩ ⟨hb, bz, fun h => hs h.symm⟩
            rcases r3 with ⟨r3, r4, r5⟩ | ⟨r3, r4⟩
            · exact .value hok r1 r4 r3 r5
            · rcases r4.why with ⟨v, z⟩ | ⟨p, u, q, up, le, w⟩
              · exact .zero hok r1 r3 r4.f64 r4.nan r4.le1 r4.le2 v z
              · exact .found hok r1 r3 r4.f64 r4.nan r4.le1 r4.le2 _ p u q up le w rfl
    · rw [if_pos rfl]
      exact .value hok (by dsimp only; omega) rfl rfl ⟨_, hb⟩
  · rw [if_pos rfl]
    exact .value hok (by dsimp only; omega) rfl rfl ⟨_, ha⟩

end Go.Proofs.Ytjhkjekbadbgnaa
