/- Plain: whole numbers by their digits to the base 2^32. No program. -/
import Derived.Test.YtjhkjekbadbgnaaPl
namespace Go.Proofs.Ytjhkjekbadbgnaa

abbrev BB : Nat := 4294967296
/-- The i-th digit. -/
def dg (x i : Nat) : Nat := x / BB ^ i % BB
/-- How many digits. -/
def nd (x : Nat) : Nat := if x = 0 then 0 else x.log2 / 32 + 1
/-- The value of n digits. -/
def vl : Nat → (Nat → Nat) → Nat
  | 0, _ => 0
  | n + 1, f => vl n f + f n * BB ^ n
/-- One digit set. -/
def upd (f : Nat → Nat) (i v : Nat) : Nat → Nat := fun j => if j = i then v else f j

theorem BB_pow (n : Nat) : BB ^ n = 2 ^ (32 * n) := by rw [Nat.pow_mul]
theorem BB_pos (n : Nat) : 0 < BB ^ n := Nat.pow_pos (by decide)

theorem dg_lt (x i : Nat) : dg x i < 4294967296 := Nat.mod_lt _ (by decide)

theorem nd_zero : nd 0 = 0 := rfl

theorem lt_nd (x : Nat) : x < BB ^ nd x := by
  unfold nd
  by_cases h : x = 0
  · subst h; exact Nat.pow_pos (by decide)
  · rw [if_neg h, BB_pow]
    have := (Nat.log2_lt (k := x.log2 + 1) h).1 (by omega)
    exact Nat.lt_of_lt_of_le this (Nat.pow_le_pow_right (by decide) (by omega))

theorem nd_le {x n : Nat} (h : x < BB ^ n) : nd x ≤ n := by
  unfold nd
  by_cases h0 : x = 0
  · rw [if_pos h0]; omega
  · rw [if_neg h0]
    rw [BB_pow] at h
    have := (Nat.log2_lt h0).2 h
    omega

theorem le_of_nd {x n : Nat} (h : n < nd x) : BB ^ n ≤ x := by
  refine Nat.le_of_not_lt fun hc => ?_
  have := nd_le hc
  omega

theorem nd_pos {x : Nat} (h : x ≠ 0) : 0 < nd x := by unfold nd; rw [if_neg h]; omega
theorem nd_eq_zero {x : Nat} : nd x = 0 ↔ x = 0 := by
  constructor
  · intro h; refine Decidable.byContradiction fun hc => ?_; have := nd_pos hc; omega
  · intro h; rw [h]; rfl

theorem dg_zero {x i : Nat} (h : x < BB ^ i) : dg x i = 0 := by unfold dg; rw [Nat.div_eq_of_lt h]; rfl
theorem dg_high {x i : Nat} (h : nd x ≤ i) : dg x i = 0 := dg_zero (Nat.lt_of_lt_of_le (lt_nd x) (Nat.pow_le_pow_right (by decide) h))

theorem mod_succ (x i : Nat) : x % BB ^ (i + 1) = x % BB ^ i + dg x i * BB ^ i := by
  unfold dg; rw [Nat.mod_pow_succ, Nat.mul_comm]

theorem dg_top {x : Nat} (h : x ≠ 0) : dg x (nd x - 1) ≠ 0 := by
  intro hc
  have h1 := mod_succ x (nd x - 1)
  have hp := nd_pos h
  rw [show nd x - 1 + 1 = nd x by omega, Nat.mod_eq_of_lt (lt_nd x), hc, Nat.zero_mul, Nat.add_zero] at h1
  have h2 : x % BB ^ (nd x - 1) < BB ^ (nd x - 1) := Nat.mod_lt _ (BB_pos _)
  have h3 := le_of_nd (x := x) (n := nd x - 1) (by omega)
  omega

/-- A number with n digits of which the last is not 0. -/
theorem nd_of {x n : Nat} (h : x < BB ^ n) (h0 : 0 < n) (ht : dg x (n - 1) ≠ 0) : nd x = n := by
  have h1 := nd_le h
  rcases Nat.lt_or_ge (nd x) n with h2 | h2
  · exact absurd (dg_high (x := x) (i := n - 1) (by omega)) ht
  · omega

theorem vl_dg (x : Nat) : ∀ n, vl n (dg x) = x % BB ^ n
  | 0 => by simp [vl, Nat.mod_one]
  | n + 1 => by rw [vl, vl_dg x n, mod_succ]

theorem vl_nd (x : Nat) : vl (nd x) (dg x) = x := by rw [vl_dg, Nat.mod_eq_of_lt (lt_nd x)]

theorem vl_lt {f : Nat → Nat} : ∀ {n}, (∀ j, j < n → f j < BB) → vl n f < BB ^ n
  | 0, _ => by simp [vl]
  | n + 1, h => by
    have h1 := vl_lt (n := n) (fun j hj => h j (by omega))
    have h2 := h n (by omega)
    rw [vl, Nat.pow_succ]
    have h3 : f n + 1 ≤ BB := h2
    calc vl n f + f n * BB ^ n < BB ^ n + f n * BB ^ n := by omega
      _ = (f n + 1) * BB ^ n := by rw [Nat.add_mul, Nat.one_mul, Nat.add_comm]
      _ ≤ BB * BB ^ n := Nat.mul_le_mul_right _ h3
      _ = BB ^ n * BB := Nat.mul_comm _ _

theorem vl_congr {f g : Nat → Nat} : ∀ {n}, (∀ j, j < n → f j = g j) → vl n f = vl n g
  | 0, _ => rfl
  | n + 1, h => by rw [vl, vl, vl_congr (n := n) (fun j hj => h j (by omega)), h n (by omega)]

theorem vl_mod {f : Nat → Nat} : ∀ {n}, (∀ j, j < n → f j < BB) → ∀ i, i ≤ n → vl n f % BB ^ i = vl i f
  | 0, _, i, hi => by obtain rfl : i = 0 := by omega
                      simp [vl]
  | n + 1, h, i, hi => by
    rcases Nat.lt_or_ge n i with h1 | h1
    · obtain rfl : i = n + 1 := by omega
      exact Nat.mod_eq_of_lt (vl_lt h)
    · rw [vl]
      have h2 : BB ^ n = BB ^ i * BB ^ (n - i) := by rw [← Nat.pow_add]; congr 1; omega
      rw [h2, Nat.mul_comm (f n), Nat.mul_assoc, Nat.add_mul_mod_self_left]
      exact vl_mod (fun j hj => h j (by omega)) i h1

/-- Digits are what they are. -/
theorem vl_dig {f : Nat → Nat} {n : Nat} (h : ∀ j, j < n → f j < BB) (i : Nat) (hi : i < n) : f i = dg (vl n f) i := by
  have h1 := vl_mod h i (by omega)
  have h2 := vl_mod h (i + 1) (by omega)
  rw [mod_succ, h1, vl] at h2
  have := Nat.eq_of_mul_eq_mul_right (BB_pos i) (show dg (vl n f) i * BB ^ i = f i * BB ^ i by omega)
  exact this.symm

theorem vl_upd (f : Nat → Nat) (i v : Nat) : ∀ n, i < n → vl n (upd f i v) + f i * BB ^ i = vl n f + v * BB ^ i
  | 0, h => by omega
  | n + 1, h => by
    rw [vl, vl]
    by_cases e : i = n
    · subst e
      have h1 : vl i (upd f i v) = vl i f := vl_congr fun j hj => by unfold upd; rw [if_neg (by omega)]
      have h2 : upd f i v i = v := by unfold upd; rw [if_pos rfl]
      rw [h1, h2]; omega
    · have h1 := vl_upd f i v n (by omega)
      have h2 : upd f i v n = f n := by unfold upd; rw [if_neg (by omega)]
      rw [h2]; omega

theorem vl_zero : ∀ n, vl n (fun _ => 0) = 0
  | 0 => rfl
  | n + 1 => by rw [vl, vl_zero n]; simp

theorem vl_zeros {f : Nat → Nat} {m : Nat} : ∀ n, (∀ j, m ≤ j → j < n → f j = 0) → m ≤ n → vl n f = vl m f
  | 0, _, hm => by obtain rfl : m = 0 := by omega
                   rfl
  | n + 1, h, hm => by
    rcases Nat.lt_or_ge n m with h1 | h1
    · obtain rfl : m = n + 1 := by omega
      rfl
    · rw [vl, h n h1 (by omega), vl_zeros n (fun j a b => h j a (by omega)) h1]; simp

/-- A carry's step. -/
theorem add_step (x y c i : Nat) (hc : c * BB ^ i + (x + y) % BB ^ i = x % BB ^ i + y % BB ^ i) :
    (dg x i + dg y i + c) % BB = dg (x + y) i ∧ (dg x i + dg y i + c) / BB * BB ^ (i + 1) + (x + y) % BB ^ (i + 1) = x % BB ^ (i + 1) + y % BB ^ (i + 1) := by
  have h1 := mod_succ x i
  have h2 := mod_succ y i
  have h3 := mod_succ (x + y) i
  have hp := BB_pos i
  have e : x % BB ^ (i + 1) + y % BB ^ (i + 1) = (dg x i + dg y i + c) * BB ^ i + (x + y) % BB ^ i := by
    rw [h1, h2, Nat.add_mul, Nat.add_mul]; omega
  have hm : (x % BB ^ (i + 1) + y % BB ^ (i + 1)) % BB ^ (i + 1) = (x + y) % BB ^ (i + 1) := (Nat.add_mod _ _ _).symm
  have hl : (x + y) % BB ^ i < BB ^ i := Nat.mod_lt _ hp
  have hs : (dg x i + dg y i + c) % BB = dg (x + y) i := by
    rw [e, h3] at hm
    have h4 : ((dg x i + dg y i + c) * BB ^ i + (x + y) % BB ^ i) % BB ^ (i + 1) = (dg x i + dg y i + c) % BB * BB ^ i + (x + y) % BB ^ i := by
      rw [Nat.mod_pow_succ, Nat.add_comm ((dg x i + dg y i + c) * BB ^ i), Nat.add_mul_mod_self_right, Nat.mod_eq_of_lt hl, Nat.add_mul_div_right _ _ hp, Nat.div_eq_of_lt hl, Nat.zero_add, Nat.mul_comm (BB ^ i)]
      omega
    rw [h4] at hm
    exact Nat.eq_of_mul_eq_mul_right hp (by omega)
  refine ⟨hs, ?_⟩
  rw [e, h3, ← hs]
  have := Nat.div_add_mod (dg x i + dg y i + c) BB
  generalize (dg x i + dg y i + c) / BB = q at *
  generalize (dg x i + dg y i + c) % BB = r at *
  generalize (dg x i + dg y i + c) = s at *
  rw [Nat.pow_succ, ← this, Nat.add_mul]
  rw [Nat.mul_comm (BB ^ i) BB, ← Nat.mul_assoc, Nat.mul_comm q BB]
  omega

end Go.Proofs.Ytjhkjekbadbgnaa
