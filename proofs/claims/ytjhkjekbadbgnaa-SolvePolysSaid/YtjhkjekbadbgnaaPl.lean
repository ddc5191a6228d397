/- Plain facts about a float64's bits: its sign, its size, its class, its rank. No program. -/
import Derived.Laws.BitsAllLaws
import Derived.Laws.FloatArith
namespace Go.Proofs.Ytjhkjekbadbgnaa

/-- A fact that the walk does not take for a rule. -/
structure Hd (p : Prop) : Prop where
  out : p

/-- The bits of a float64 fit in 64. -/
structure F64 (x : Nat) : Prop where
  out : x < 18446744073709551616
/-- The bits without the sign. -/
def mg (x : Nat) : Nat := x % 9223372036854775808
/-- The sign bit. -/
def ng (x : Nat) : Bool := decide (9223372036854775808 ≤ x)
def INF : Nat := 9218868437227405312
/-- Is it a NaN? -/
def nn (x : Nat) : Bool := decide (INF < mg x)
/-- Is it a number? -/
def fin (x : Nat) : Bool := decide (mg x < INF)
def cls (x : Nat) : Int := if mg x = 0 then 1 else if mg x < 4503599627370496 then 2 else if mg x < INF then 3 else if mg x = INF then 4 else 5
def rk (x : Nat) : Int := if ng x then -(mg x : Int) else mg x
/-- The float of a rank. -/
def atk (n : Int) : Nat := if n < 0 then n.natAbs + 9223372036854775808 else n.toNat

theorem mg_lt (x : Nat) : mg x < 9223372036854775808 := Nat.mod_lt _ (by decide)
theorem INF_lt : INF < 9223372036854775808 := by decide

theorem bits_mg (x : Nat) (h : F64 x) : bits .andNot .u64 (x : Int) 9223372036854775808 = ((mg x : Nat) : Int) := by
  have := u64_andNot_nat x 9223372036854775808 h.out (by decide)
  rw [show ((9223372036854775808 : Nat) : Int) = 9223372036854775808 from rfl] at this
  rw [this]
  show ((x &&& (2 ^ 63 - 1) : Nat) : Int) = _
  rw [Nat.and_two_pow_sub_one_eq_mod]
  rfl

theorem ng_div (x : Nat) (h : F64 x) : ((x : Int) / 9223372036854775808 == 1) = ng x := by
  have h := h.out; unfold ng
  rw [Bool.eq_iff_iff]; simp; omega

theorem cls_nan (x : Nat) : (cls x == 5) = nn x := by
  unfold cls nn INF
  have := mg_lt x
  rw [Bool.eq_iff_iff]
  repeat' split
  all_goals simp; try omega

theorem cls_nan' (x : Nat) : (cls x != 5) = !nn x := by
  rw [bne, cls_nan]

theorem cls_fin (x : Nat) : decide (cls x < 4) = fin x := by
  unfold cls fin INF
  rw [Bool.eq_iff_iff]
  repeat' split
  all_goals simp; try omega

theorem cls_bd (x : Nat) : 1 ≤ cls x ∧ cls x ≤ 5 := by
  unfold cls; repeat' split
  all_goals omega

theorem rk_bd (x : Nat) (h : nn x = false) : -9218868437227405312 ≤ rk x ∧ rk x ≤ 9218868437227405312 := by
  unfold nn INF at h; simp at h; unfold rk; split <;> omega

theorem nn_fin (x : Nat) (h : fin x = true) : nn x = false := by
  unfold fin at h; unfold nn; simp at *; omega

theorem atk_F64 (n : Int) (h : -9218868437227405312 ≤ n) (h' : n ≤ 9218868437227405312) : F64 (atk n) := by
  constructor; unfold atk; split <;> omega

theorem mg_atk (n : Int) (h : -9218868437227405312 ≤ n) (h' : n ≤ 9218868437227405312) : mg (atk n) = n.natAbs := by
  unfold mg atk; split <;> omega

theorem rk_atk (n : Int) (h : -9218868437227405312 ≤ n) (h' : n ≤ 9218868437227405312) : rk (atk n) = n := by
  unfold rk; rw [mg_atk n h h']; unfold ng atk
  split <;> split at * <;> simp at * <;> omega

theorem nn_atk (n : Int) (h : -9218868437227405312 ≤ n) (h' : n ≤ 9218868437227405312) : nn (atk n) = false := by
  unfold nn; rw [mg_atk n h h']; unfold INF; simp; omega

theorem rk_of_pos {x : Nat} (h : ng x = false) : rk x = mg x := by unfold rk; rw [if_neg (by simp [h])]
theorem rk_of_neg {x : Nat} (h : ng x = true) : rk x = -(mg x : Int) := by unfold rk; rw [if_pos h]

theorem atk_pos {n : Int} (h : 0 ≤ n) : n.toNat = atk n := by unfold atk; rw [if_neg (by omega)]
theorem atk_neg {n : Int} (h : n < 0) (h' : -9218868437227405312 ≤ n) : (bits .or .u64 (-n) 9223372036854775808).toNat = atk n := by
  obtain ⟨k, rfl⟩ : ∃ k : Nat, n = -(k : Int) := ⟨n.natAbs, by omega⟩
  have h1 : k < 9223372036854775808 := by omega
  rw [Int.neg_neg, show (9223372036854775808 : Int) = ((9223372036854775808 : Nat) : Int) from rfl, u64_or_nat k 9223372036854775808 (by omega) (by decide)]
  unfold atk; rw [if_pos h, Int.toNat_natCast, Nat.or_comm, nat_join 63 9223372036854775808 k (by decide) h1]
  simp; omega

theorem cls_ways (x : Nat) :
    (((mg x : Int) == 0) = true ∧ Hd (1 = cls x)) ∨
    (((mg x : Int) == 0) = false ∧ (mg x : Int) < 4503599627370496 ∧ Hd (2 = cls x)) ∨
    (((mg x : Int) == 0) = false ∧ decide ((mg x : Int) < 4503599627370496) = false ∧ (mg x : Int) < 9218868437227405312 ∧ Hd (3 = cls x)) ∨
    (((mg x : Int) == 0) = false ∧ decide ((mg x : Int) < 4503599627370496) = false ∧ decide ((mg x : Int) < 9218868437227405312) = false ∧ ((mg x : Int) == 9218868437227405312) = true ∧ Hd (4 = cls x)) ∨
    (((mg x : Int) == 0) = false ∧ decide ((mg x : Int) < 4503599627370496) = false ∧ decide ((mg x : Int) < 9218868437227405312) = false ∧ ((mg x : Int) == 9218868437227405312) = false ∧ Hd (5 = cls x)) := by
  unfold cls INF
  by_cases h0 : mg x = 0
  · exact Or.inl ⟨by simp [h0], ⟨by rw [if_pos h0]⟩⟩
  have g0 : ((mg x : Int) == 0) = false := by simp [h0]
  by_cases h1 : mg x < 4503599627370496
  · exact Or.inr (Or.inl ⟨g0, by omega, ⟨by rw [if_neg h0, if_pos h1]⟩⟩)
  by_cases h2 : mg x < 9218868437227405312
  · exact Or.inr (Or.inr (Or.inl ⟨g0, by simp; omega, by omega, ⟨by rw [if_neg h0, if_neg h1, if_pos h2]⟩⟩))
  by_cases h3 : mg x = 9218868437227405312
  · exact Or.inr (Or.inr (Or.inr (Or.inl ⟨g0, by simp; omega, by simp; omega, by rw [beq_iff_eq]; omega, ⟨by rw [if_neg h0, if_neg h1, if_neg h2, if_pos h3]⟩⟩)))
  · exact Or.inr (Or.inr (Or.inr (Or.inr ⟨g0, by simp; omega, by simp; omega, by rw [beq_eq_false_iff_ne]; omega, ⟨by rw [if_neg h0, if_neg h1, if_neg h2, if_neg h3]⟩⟩)))

attribute [irreducible] mg ng INF nn fin cls rk atk

end Go.Proofs.Ytjhkjekbadbgnaa
