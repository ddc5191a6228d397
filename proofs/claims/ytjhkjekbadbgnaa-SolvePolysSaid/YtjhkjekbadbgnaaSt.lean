/- The document's search goes as bisection does: one step of it, and its begin. -/
import Derived.Test.YtjhkjekbadbgnaaSe
namespace Go.Proofs.Ytjhkjekbadbgnaa
open Go.RowKit
set_option linter.unusedSimpArgs false
set_option linter.unusedVariables false

/-- A search that goes on, held against bisection of g between lo0 and hi0; n: a bound on what is to come. -/
inductive SR (g : Nat → Nat) (lo0 hi0 : Nat) : Nat → Nat → Nat → Bool → Nat → Nat → Nat → Bool → Nat → Int → Prop where
  | begin (neg : Bool) (first x : Nat) (e : Int) (h : okEnds lo0 hi0 = true) (f1 : F64 lo0) (f2 : F64 hi0) : SR g lo0 hi0 100 lo0 hi0 neg 0 lo0 first false x e
  | second (neg : Bool) (x : Nat) (e : Int) (h : okEnds lo0 hi0 = true) (f1 : F64 lo0) (f2 : F64 hi0) (hn : nn (g lo0) = false) : SR g lo0 hi0 99 lo0 hi0 neg 1 hi0 (g lo0) false x e
  | half (k lo hi c : Nat) (neg sa : Bool) (first x : Nat) (e : Int) (f1 : F64 lo) (f2 : F64 hi) (n1 : nn lo = false) (n2 : nn hi = false) (lt : rk lo < rk hi) (gap : rk hi - rk lo ≤ 2 ^ (k + 1)) (go : ¬ rk (md lo hi) = rk lo)
      (sg : neg = !sa) (c2 : 2 ≤ c) (c9 : c + (k + 1) ≤ 66) (r : root g lo0 hi0 = bis g sa (k + 1) lo hi c) : SR g lo0 hi0 (k + 1) lo hi neg c (md lo hi) first false x e
  | done (n lo hi : Nat) (neg : Bool) (c ask first x : Nat) (e : Int) (r : root g lo0 hi0 = (x, c, e)) : SR g lo0 hi0 n lo hi neg c ask first true x e

theorem sgn_pos {v : Nat} (h : mg v ≠ 0) : decide (0 < rk v) = !ng v := by
  unfold rk; cases ng v <;> simp <;> omega
theorem rk_zero {v : Nat} : rk v = 0 ↔ mg v = 0 := by
  have := mg_rk' v; omega
where mg_rk' (x : Nat) : (mg x : Int) = (rk x).natAbs := by unfold rk; split <;> omega

/-- Behind a halving: ended, or a search that goes on. -/
theorem SR.halved {g : Nat → Nat} {lo0 hi0 k lo hi c : Nat} {neg sa : Bool} {ask first x : Nat} {e : Int} (f1 : F64 lo) (f2 : F64 hi) (n1 : nn lo = false) (n2 : nn hi = false) (lt : rk lo < rk hi) (gap : rk hi - rk lo ≤ 2 ^ k)
    (sg : neg = !sa) (c2 : 2 ≤ c) (c9 : c + k ≤ 66) (r : root g lo0 hi0 = bis g sa k lo hi c) : SR g lo0 hi0 k lo hi neg c (hAsk lo hi ask) first (hDone lo hi false) (hX lo hi x) (hE lo hi e) := by
  cases hs : hS lo hi
  · have h : ¬ rk (md lo hi) = rk lo := by unfold hS at hs; simpa using hs
    obtain ⟨h1, h2, h3, h4⟩ := h_go (ask := ask) (done := false) (x := x) (e := e) hs
    rw [← h1, ← h2, ← h3, ← h4]
    cases k with
    | zero => exact absurd (gap_0 n1 n2 lt gap) h
    | succ k => exact .half k lo hi c neg sa first x e f1 f2 n1 n2 lt gap h sg c2 (by omega) r
  · have h : rk (md lo hi) = rk lo := by unfold hS at hs; simpa using hs
    obtain ⟨h1, h2, h3, h4⟩ := h_stop (ask := ask) (done := false) (x := x) (e := e) hs
    rw [← h1, ← h2, ← h3, ← h4]
    exact .done _ _ _ _ _ _ _ _ _ (by rw [r, bis_stop _ _ _ _ _ _ h])

/-- A search's fields as Go's value. -/
@[reducible] def sval (lo hi : Nat) (neg : Bool) (calls : Nat) (ask first : Nat) (done : Bool) (x : Nat) (e : Int) : Value :=
  .agg #[.int .u64 lo, .int .u64 hi, .bool neg, .int .i64 calls, .int .u64 ask, .int .u64 first, .bool done, .int .u64 x, .int .i64 e]

/-- What one step comes to. -/
def StepPost (g : Nat → Nat) (lo0 hi0 n : Nat) (w : World) (en : Ending) (w' : World) : Prop :=
  ∃ (n' lo hi : Nat) (neg : Bool) (calls ask first : Nat) (done : Bool) (x : Nat) (e : Int), n' < n ∧ en = .returned (sval lo hi neg calls ask first done x e) ∧ SR g lo0 hi0 n' lo hi neg calls ask first done x e ∧ Below w.heap.size w w'

theorem told_step (g : Nat → Nat) (lo0 hi0 n lo hi : Nat) (neg : Bool) (calls ask first x : Nat) (e : Int) (hg : ∀ y, F64 (g y)) (h : SR g lo0 hi0 n lo hi neg calls ask first false x e) (w : World) :
    Calls Try.prog 25 #[sval lo hi neg calls ask first false x e, .int .u64 (g ask)] w (StepPost g lo0 hi0 n w) := by
  cases h with
  | begin _ _ _ _ hok f1 f2 =>
    cases hn : nn (g lo0)
    · refine (told_1 lo0 hi0 neg 0 lo0 first false x e (g lo0) (hg _) rfl hn w).mono ?_
      rintro en w' ⟨rfl, hb⟩
      exact ⟨99, _, _, _, 1, _, _, _, _, _, by omega, rfl, .second _ _ _ hok f1 f2 hn, hb⟩
    · refine (told_nan lo0 hi0 neg 0 lo0 first false x e (g lo0) (hg _) (by omega) (by omega) hn w).mono ?_
      rintro en w' ⟨rfl, hb⟩
      exact ⟨0, _, _, _, 1, _, _, _, _, _, by omega, rfl, .done _ _ _ _ _ _ _ _ _ (by unfold root; rw [if_neg (by simp [hok]), if_pos hn]), hb⟩
  | second _ _ _ hok f1 f2 hn0 =>
    obtain ⟨e1, e2, e3⟩ := okEnds_of hok
    have n1 := nn_fin _ e1
    have n2 := nn_fin _ e2
    cases hn : nn (g hi0)
    · by_cases z : mg (g lo0) = 0
      · refine (told_2a lo0 hi0 neg 1 hi0 (g lo0) false x e (g hi0) (hg _) rfl hn (hg _) z w).mono ?_
        rintro en w' ⟨rfl, hb⟩
        exact ⟨0, _, _, _, 2, _, _, _, _, _, by omega, rfl, .done _ _ _ _ _ _ _ _ _ (by
          unfold root; rw [if_neg (by simp [hok]), if_neg (by simp [hn0]), if_neg (by simp [hn]), if_pos (rk_zero.2 z)]), hb⟩
      by_cases y : mg (g hi0) = 0
      · refine (told_2b lo0 hi0 neg 1 hi0 (g lo0) false x e (g hi0) (hg _) rfl hn (hg _) z y w).mono ?_
        rintro en w' ⟨rfl, hb⟩
        exact ⟨0, _, _, _, 2, _, _, _, _, _, by omega, rfl, .done _ _ _ _ _ _ _ _ _ (by
          unfold root; rw [if_neg (by simp [hok]), if_neg (by simp [hn0]), if_neg (by simp [hn]), if_neg (mt rk_zero.1 z), if_pos (rk_zero.2 y)]), hb⟩
      have s1 := sgn_pos z
      have s2 := sgn_pos y
      by_cases s : ng (g hi0) = ng (g lo0)
      · refine (told_2c lo0 hi0 neg 1 hi0 (g lo0) false x e (g hi0) (hg _) rfl hn (hg _) z y s w).mono ?_
        rintro en w' ⟨rfl, hb⟩
        exact ⟨0, _, _, _, 2, _, _, _, _, _, by omega, rfl, .done _ _ _ _ _ _ _ _ _ (by
          unfold root; rw [if_neg (by simp [hok]), if_neg (by simp [hn0]), if_neg (by simp [hn]), if_neg (mt rk_zero.1 z), if_neg (mt rk_zero.1 y), if_pos (by rw [s1, s2, s])]), hb⟩
      · refine (told_2d lo0 hi0 neg 1 hi0 (g lo0) false x e (g hi0) (hg _) rfl hn (hg _) z y s f1 f2 n1 n2 w).mono ?_
        rintro en w' ⟨rfl, hb⟩
        exact ⟨64, _, _, _, 2, _, _, _, _, _, by omega, rfl, .halved (sa := decide (0 < rk (g lo0))) f1 f2 n1 n2 e3 (gap64 n1 n2) (by rw [s1]; simp) (by omega) (by omega) (by
          unfold root; rw [if_neg (by simp [hok]), if_neg (by simp [hn0]), if_neg (by simp [hn]), if_neg (mt rk_zero.1 z), if_neg (mt rk_zero.1 y), if_neg (by rw [s1, s2]; intro hh; exact s (by simpa using hh.symm))]), hb⟩
    · refine (told_nan lo0 hi0 neg 1 hi0 (g lo0) false x e (g hi0) (hg _) (by omega) (by omega) hn w).mono ?_
      rintro en w' ⟨rfl, hb⟩
      exact ⟨0, _, _, _, 2, _, _, _, _, _, by omega, rfl, .done _ _ _ _ _ _ _ _ _ (by
        unfold root; rw [if_neg (by simp [hok]), if_neg (by simp [hn0]), if_pos hn]), hb⟩
  | half k _ _ _ _ sa _ _ _ f1 f2 n1 n2 lt gap go sg c2 c9 r =>
    obtain ⟨m1, m2, m3⟩ := md_rk n1 n2
    obtain ⟨b1, b2, b3, b4⟩ := md_bd n1 n2 lt go gap
    cases hn : nn (g (md lo hi))
    · by_cases y : mg (g (md lo hi)) = 0
      · refine (told_3a lo hi neg calls (md lo hi) first false x e (g (md lo hi)) (hg _) (by omega) (by omega) hn y w).mono ?_
        rintro en w' ⟨rfl, hb⟩
        exact ⟨0, _, _, _, calls + 1, _, _, _, _, _, by omega, rfl, .done _ _ _ _ _ _ _ _ _ (by rw [r, bis_zero _ _ _ _ _ _ go hn (rk_zero.2 y)]), hb⟩
      have s2 := sgn_pos y
      by_cases s : ng (g (md lo hi)) = neg
      · refine (told_3b lo hi neg calls (md lo hi) first false x e (g (md lo hi)) (hg _) (by omega) (by omega) hn y s m2 f2 m3 n2 w).mono ?_
        rintro en w' ⟨rfl, hb⟩
        exact ⟨k, _, _, _, calls + 1, _, _, _, _, _, by omega, rfl, .halved (sa := sa) m2 f2 m3 n2 b2 b4 sg (by omega) (by omega) (by
          rw [r, bis_up _ _ _ _ _ _ go hn (mt rk_zero.1 y) (by rw [s2, s, sg]; simp)]), hb⟩
      · refine (told_3c lo hi neg calls (md lo hi) first false x e (g (md lo hi)) (hg _) (by omega) (by omega) hn y s f1 m2 n1 m3 w).mono ?_
        rintro en w' ⟨rfl, hb⟩
        exact ⟨k, _, _, _, calls + 1, _, _, _, _, _, by omega, rfl, .halved (sa := sa) f1 m2 n1 m3 b1 b3 sg (by omega) (by omega) (by
          rw [r, bis_dn _ _ _ _ _ _ go hn (mt rk_zero.1 y) (by rw [s2]; intro hh; rw [sg] at s; apply s; rw [← hh]; simp)]), hb⟩
    · refine (told_nan lo hi neg calls (md lo hi) first false x e (g (md lo hi)) (hg _) (by omega) (by omega) hn w).mono ?_
      rintro en w' ⟨rfl, hb⟩
      exact ⟨0, _, _, _, calls + 1, _, _, _, _, _, by omega, rfl, .done _ _ _ _ _ _ _ _ _ (by rw [r, bis_nan _ _ _ _ _ _ go hn]), hb⟩

end Go.Proofs.Ytjhkjekbadbgnaa
