/- Put together out of several texts: Ka Kb Kc Kd Ke Kf Kg Kh Ki. -/
import Derived.Test.YteikihidblcljaaM1
import Derived.Test.YteikihidblcljaaM3
import Derived.Test.YteikihidblcljaaM6
import Derived.Test.YteikihidblcljaaM5
import Derived.Laws.Externs
import Derived.Shelf.Spec.BitsCarry
import Derived.RegionTactic
import Derived.Deep.RegionHeld3
import Derived.Outline
import Derived.Shelf.Bits.Mul64
import Derived.Deep.WholeRow
import Derived.Laws.CopyRow
import Derived.Deep.DeepCutAuto
import Derived.ChangeKeysEq

/- Plain: a whole number's words to the base 2^64, below 0 as two's complement. No program. -/
namespace Go.Proofs.Yteikihidblcljaa
set_option linter.unusedVariables false

/-- 2^64, and its powers. -/
abbrev WI : Int := 18446744073709551616
def PW (i : Nat) : Int := WI ^ i
theorem PW_zero : PW 0 = 1 := rfl
theorem PW_succ (i : Nat) : PW (i + 1) = PW i * WI := by unfold PW; rw [Int.pow_succ]
theorem PW_pos : ∀ i, 0 < PW i
  | 0 => by rw [PW_zero]; decide
  | i + 1 => by rw [PW_succ]; exact Int.mul_pos (PW_pos i) (by decide)
theorem PW_add (i j : Nat) : PW (i + j) = PW i * PW j := by unfold PW; rw [Int.pow_add]
theorem PW_nat (i : Nat) : PW i = ((2 ^ (64 * i) : Nat) : Int) := by
  induction i with
  | zero => rfl
  | succ i ih => rw [PW_succ, ih, Nat.mul_succ, Nat.pow_add, Int.natCast_mul]; rfl

/-- The i-th word. -/
def dZ (z : Int) (i : Nat) : Int := z / PW i % WI
theorem dZ_bd (z : Int) (i : Nat) : 0 ≤ dZ z i ∧ dZ z i < 18446744073709551616 :=
  ⟨Int.emod_nonneg _ (by decide), Int.emod_lt_of_pos _ (by decide)⟩

/-- Of a product, what is left. -/
theorem emod_prod (x p q : Int) (hp : 0 < p) (hq : 0 < q) : x % (p * q) = x % p + x / p % q * p := by
  have a := Int.mul_ediv_add_emod x p
  have b := Int.mul_ediv_add_emod (x / p) q
  have r0 := Int.emod_nonneg x (Int.ne_of_gt hp)
  have r1 := Int.emod_lt_of_pos x hp
  have s0 := Int.emod_nonneg (x / p) (Int.ne_of_gt hq)
  have s1 := Int.emod_lt_of_pos (x / p) hq
  have e : x = (x % p + x / p % q * p) + (p * q) * (x / p / q) := by
    have c : p * (x / p) = p * (q * (x / p / q)) + p * (x / p % q) := by rw [← Int.mul_add, b]
    have d : p * (x / p % q) = x / p % q * p := Int.mul_comm _ _
    have f : p * (q * (x / p / q)) = p * q * (x / p / q) := (Int.mul_assoc _ _ _).symm
    omega
  generalize x / p / q = t at *
  generalize x / p % q = s at *
  generalize x % p = r at *
  have hsp : 0 ≤ s * p := Int.mul_nonneg s0 (Int.le_of_lt hp)
  have hsq : s * p ≤ (q - 1) * p := Int.mul_le_mul_of_nonneg_right (by omega) (Int.le_of_lt hp)
  have hq2 : (q - 1) * p = p * q - p := by rw [Int.sub_mul, Int.mul_comm q p, Int.one_mul]
  rw [e, Int.add_mul_emod_self_left]
  exact Int.emod_eq_of_lt (by omega) (by omega)

theorem modZ_succ (z : Int) (i : Nat) : z % PW (i + 1) = z % PW i + dZ z i * PW i := by
  rw [PW_succ, emod_prod z (PW i) WI (PW_pos i) (by decide)]; rfl

theorem modZ_bd (z : Int) (i : Nat) : 0 ≤ z % PW i ∧ z % PW i < PW i := ⟨Int.emod_nonneg _ (Int.ne_of_gt (PW_pos i)), Int.emod_lt_of_pos _ (PW_pos i)⟩
theorem modZ_zero (z : Int) : z % PW 0 = 0 := by rw [PW_zero]; exact Int.emod_one z

/-- Words are what they are. -/
theorem dZ_of (z : Int) (i : Nat) (d r : Int) (h : z % PW (i + 1) = r + d * PW i) (r0 : 0 ≤ r) (r1 : r < PW i) : dZ z i = d ∧ z % PW i = r := by
  have e := modZ_succ z i
  rw [h] at e
  obtain ⟨a, b⟩ := modZ_bd z i
  generalize z % PW i = t at *
  generalize dZ z i = s at *
  have hp := PW_pos i
  have k : (s - d) * PW i = r - t := by rw [Int.sub_mul]; omega
  have hs : s - d = 0 := by
    rcases (by omega : s - d ≤ -1 ∨ s - d = 0 ∨ 1 ≤ s - d) with g | g | g
    · have := Int.mul_le_mul_of_nonneg_right g (Int.le_of_lt hp); omega
    · exact g
    · have := Int.mul_le_mul_of_nonneg_right g (Int.le_of_lt hp); omega
  rw [hs, Int.zero_mul] at k
  omega

/-- A carry's step. -/
theorem addZ_step (x y c : Int) (i : Nat) (h : c * PW i + (x + y) % PW i = x % PW i + y % PW i) :
    (dZ x i + dZ y i + c) % WI = dZ (x + y) i ∧ (dZ x i + dZ y i + c) / WI * PW (i + 1) + (x + y) % PW (i + 1) = x % PW (i + 1) + y % PW (i + 1) := by
  have h1 := modZ_succ x i
  have h2 := modZ_succ y i
  have e : x % PW (i + 1) + y % PW (i + 1) = (dZ x i + dZ y i + c) * PW i + (x + y) % PW i := by
    rw [h1, h2, Int.add_mul, Int.add_mul]; omega
  have hm : (x + y) % PW (i + 1) = (x % PW (i + 1) + y % PW (i + 1)) % PW (i + 1) := Int.add_emod _ _ _
  have d := Int.mul_ediv_add_emod (dZ x i + dZ y i + c) WI
  have l0 := Int.emod_nonneg (dZ x i + dZ y i + c) (show WI ≠ 0 by decide)
  have l1 := Int.emod_lt_of_pos (dZ x i + dZ y i + c) (show 0 < WI by decide)
  obtain ⟨m0, m1⟩ := modZ_bd (x + y) i
  have hp := PW_pos i
  generalize dZ x i + dZ y i + c = s at *
  have e2 : s * PW i = s % WI * PW i + PW (i + 1) * (s / WI) := by
    rw [PW_succ]
    have : s = s % WI + WI * (s / WI) := by omega
    have h3 : s * PW i = (s % WI + WI * (s / WI)) * PW i := by rw [← this]
    rw [h3, Int.add_mul, Int.mul_comm WI, Int.mul_assoc, Int.mul_comm WI (PW i), Int.mul_comm (s / WI)]
  have e3 : x % PW (i + 1) + y % PW (i + 1) = ((x + y) % PW i + s % WI * PW i) + PW (i + 1) * (s / WI) := by omega
  have g1 : s % WI * PW i ≤ (WI - 1) * PW i := Int.mul_le_mul_of_nonneg_right (by omega) (Int.le_of_lt hp)
  have g2 : (WI - 1) * PW i = PW (i + 1) - PW i := by rw [PW_succ, Int.sub_mul, Int.mul_comm WI, Int.one_mul]
  have g3 : 0 ≤ s % WI * PW i := Int.mul_nonneg l0 (Int.le_of_lt hp)
  have e4 : (x + y) % PW (i + 1) = (x + y) % PW i + s % WI * PW i := by
    rw [hm, e3, Int.add_mul_emod_self_left]
    exact Int.emod_eq_of_lt (by omega) (by omega)
  refine ⟨(dZ_of (x + y) i (s % WI) _ e4 m0 m1).1.symm, ?_⟩
  rw [e3, e4, Int.mul_comm (s / WI)]; omega

theorem dZ_sub_add (x y : Int) : x - y + y = x := by omega

/-- A borrow's step. -/
theorem subZ_step (x y c : Int) (i : Nat) (c0 : 0 ≤ c) (c1 : c ≤ 1) (h : x % PW i + c * PW i = (x - y) % PW i + y % PW i) :
    (dZ x i + WI - dZ y i - c) % WI = dZ (x - y) i ∧ x % PW (i + 1) + (if dZ x i < dZ y i + c then 1 else 0) * PW (i + 1) = (x - y) % PW (i + 1) + y % PW (i + 1) := by
  have h1 := modZ_succ x i
  have h2 := modZ_succ y i
  obtain ⟨x0, x1⟩ := dZ_bd x i
  obtain ⟨y0, y1⟩ := dZ_bd y i
  obtain ⟨m0, m1⟩ := modZ_bd (x - y) i
  have hp := PW_pos i
  have hm : (x - y) % PW (i + 1) = (x % PW (i + 1) - y % PW (i + 1)) % PW (i + 1) := Int.sub_emod _ _ _
  have e : x % PW (i + 1) - y % PW (i + 1) = (dZ x i - dZ y i - c) * PW i + (x - y) % PW i := by
    rw [h1, h2, Int.sub_mul, Int.sub_mul]; omega
  have gs := PW_succ i
  have hW : WI = 18446744073709551616 := rfl
  by_cases hb : dZ x i < dZ y i + c
  · rw [if_pos hb, Int.one_mul]
    have hq : (dZ x i + WI - dZ y i - c) % WI = dZ x i + WI - dZ y i - c := Int.emod_eq_of_lt (by omega) (by omega)
    rw [hq]
    obtain ⟨s, hs⟩ : ∃ s, dZ x i + WI - dZ y i - c = s := ⟨_, rfl⟩
    rw [hs]
    have e2 : (dZ x i - dZ y i - c) * PW i = s * PW i - PW (i + 1) := by
      rw [show dZ x i - dZ y i - c = s - WI by omega, Int.sub_mul, gs, Int.mul_comm WI]
    have g1 : s * PW i ≤ (WI - 1) * PW i := Int.mul_le_mul_of_nonneg_right (by omega) (Int.le_of_lt hp)
    have g2 : (WI - 1) * PW i = PW (i + 1) - PW i := by rw [gs, Int.sub_mul, Int.mul_comm WI, Int.one_mul]
    have g3 : 0 ≤ s * PW i := Int.mul_nonneg (by omega) (Int.le_of_lt hp)
    have e4 : (x - y) % PW (i + 1) = (x - y) % PW i + s * PW i := by
      rw [hm, e, e2, show s * PW i - PW (i + 1) + (x - y) % PW i = ((x - y) % PW i + s * PW i) + PW (i + 1) * (-1) by omega, Int.add_mul_emod_self_left]
      exact Int.emod_eq_of_lt (by omega) (by omega)
    refine ⟨(dZ_of (x - y) i s _ e4 m0 m1).1.symm, by omega⟩
  · rw [if_neg hb, Int.zero_mul]
    have hq : (dZ x i + WI - dZ y i - c) % WI = dZ x i - dZ y i - c := by
      rw [show dZ x i + WI - dZ y i - c = (dZ x i - dZ y i - c) + WI * 1 by omega, Int.add_mul_emod_self_left]
      exact Int.emod_eq_of_lt (by omega) (by omega)
    rw [hq]
    obtain ⟨s, hs⟩ : ∃ s, dZ x i - dZ y i - c = s := ⟨_, rfl⟩
    rw [hs] at e ⊢
    have g1 : s * PW i ≤ (WI - 1) * PW i := Int.mul_le_mul_of_nonneg_right (by omega) (Int.le_of_lt hp)
    have g2 : (WI - 1) * PW i = PW (i + 1) - PW i := by rw [gs, Int.sub_mul, Int.mul_comm WI, Int.one_mul]
    have g3 : 0 ≤ s * PW i := Int.mul_nonneg (by omega) (Int.le_of_lt hp)
    have e4 : (x - y) % PW (i + 1) = (x - y) % PW i + s * PW i := by
      rw [hm, e, show s * PW i + (x - y) % PW i = (x - y) % PW i + s * PW i by omega]
      exact Int.emod_eq_of_lt (by omega) (by omega)
    refine ⟨(dZ_of (x - y) i s _ e4 m0 m1).1.symm, by omega⟩

theorem dZ_zero (i : Nat) : dZ 0 i = 0 := by unfold dZ; rw [Int.zero_ediv]; rfl

/-- A number from 0 to below 2^128, n * 64 bits on: its words. -/
theorem dZ_shift (y : Int) (k i : Nat) : dZ (y * PW k) (k + i) = dZ y i := by
  unfold dZ
  rw [PW_add, Int.mul_comm (PW k), Int.mul_ediv_mul_of_pos_left _ _ (PW_pos k)]
theorem dZ_shift_low (y : Int) (k i : Nat) (h : i < k) : dZ (y * PW k) i = 0 := by
  obtain ⟨j, rfl⟩ : ∃ j, k = i + 1 + j := ⟨k - i - 1, by omega⟩
  have : (y * PW (i + 1 + j)) % PW (i + 1) = 0 + 0 * PW i := by
    rw [PW_add, Int.mul_comm (PW (i + 1)), ← Int.mul_assoc, Int.mul_emod_left]; omega
  exact (dZ_of _ i 0 0 this (Int.le_refl _) (PW_pos i)).1
theorem dZ_small (y : Int) (i : Nat) (h0 : 0 ≤ y) (h1 : y < PW i) : dZ y i = 0 := by
  unfold dZ; rw [Int.ediv_eq_zero_of_lt h0 h1]; rfl
theorem dZ_low (y : Int) (h0 : 0 ≤ y) (h1 : y < WI) : dZ y 0 = y := by
  unfold dZ; rw [PW_zero, Int.ediv_one]; exact Int.emod_eq_of_lt h0 h1

attribute [irreducible] PW dZ

end Go.Proofs.Yteikihidblcljaa

/- Accumulators in memory; the walk of put. -/
namespace Go.Proofs.Yteikihidblcljaa
open Go.RowKit
set_option linter.unusedSimpArgs false
set_option linter.unusedVariables false

theorem add64_run (x y c : Int) (hx : 0 ≤ x) (hy : 0 ≤ y) (hc0 : 0 ≤ c) (hc : c ≤ 1) (w : World) :
    (callFunc 67 #[.int .u64 x, .int .u64 y, .int .u64 c]).run Try.prog w =
      .ok (.value (.tuple #[.int .u64 ((x + y + c) % 18446744073709551616), .int .u64 ((x + y + c) / 18446744073709551616)])) w := by
  rw [run_callFunc_extern Try.func67 (by kernel_rfl) (by kernel_rfl) (by kernel_rfl) (e := add64Entry) (by kernel_rfl), run_add64 x y c hx hy hc0 hc]
  rfl

theorem sub64_run (x y c : Int) (hx : 0 ≤ x) (hy : 0 ≤ y) (hy1 : y < 18446744073709551616) (hc0 : 0 ≤ c) (hc : c ≤ 1) (w : World) :
    (callFunc 103 #[.int .u64 x, .int .u64 y, .int .u64 c]).run Try.prog w =
      .ok (.value (.tuple #[.int .u64 ((x + 18446744073709551616 - y - c) % 18446744073709551616), .int .u64 (if x < y + c then 1 else 0)])) w := by
  obtain ⟨X, rfl⟩ := Int.eq_ofNat_of_zero_le hx
  obtain ⟨Y, rfl⟩ := Int.eq_ofNat_of_zero_le hy
  obtain ⟨C, rfl⟩ := Int.eq_ofNat_of_zero_le hc0
  rw [run_callFunc_extern Try.func103 (by kernel_rfl) (by kernel_rfl) (by kernel_rfl) (e := sub64Entry) (by kernel_rfl), run_sub64 X Y C (by omega)]
  have e1 : (((X + 18446744073709551616 - Y - C) % 18446744073709551616 : Nat) : Int) = ((X : Int) + 18446744073709551616 - Y - C) % 18446744073709551616 := by omega
  have e2 : ((if X < Y + C then 1 else 0 : Nat) : Int) = if (X : Int) < Y + C then 1 else 0 := by
    by_cases h : X < Y + C
    · rw [if_pos h, if_pos (by omega)]; rfl
    · rw [if_neg h, if_neg (by omega)]; rfl
  rw [e1, e2]; rfl

/-- The cells of an accumulator that holds z units. -/
def accF (z : Int) (up dn : Bool) (j : Nat) : Value := if j < 68 then .int .u64 (dZ z j) else if j = 68 then .bool up else .bool dn
/-- Block b is an accumulator. -/
def AccIs (w : World) (b : Nat) (z : Int) (up dn : Bool) : Prop := w.rowIs b 96 70 (accF z up dn)

theorem AccIs.word {w : World} {b : Nat} {z : Int} {up dn : Bool} (h : AccIs w b z up dn) (i : Nat) (hi : i < 68) : w.cell? ⟨b, i, none⟩ = some (.int .u64 (dZ z i)) := by
  have := h.cell (i := i) (by omega)
  unfold accF at this; rwa [if_pos hi] at this
theorem AccIs.up {w : World} {b : Nat} {z : Int} {up dn : Bool} (h : AccIs w b z up dn) : w.cell? ⟨b, 68, none⟩ = some (.bool up) := by
  have := h.cell (i := 68) (by omega)
  unfold accF at this; rwa [if_neg (by omega), if_pos rfl] at this
theorem AccIs.dn {w : World} {b : Nat} {z : Int} {up dn : Bool} (h : AccIs w b z up dn) : w.cell? ⟨b, 69, none⟩ = some (.bool dn) := by
  have := h.cell (i := 69) (by omega)
  unfold accF at this; rwa [if_neg (by omega), if_neg (by omega)] at this
theorem AccIs.frozen {w : World} {b : Nat} {z : Int} {up dn : Bool} (h : AccIs w b z up dn) (i : Nat) : w.frozen? ⟨b, i, none⟩ = false := World.rowIs.frozen h i
theorem AccIs.lt {w : World} {b : Nat} {z : Int} {up dn : Bool} (h : AccIs w b z up dn) : b < w.heap.size := World.rowIs.lt h

/-- Block b alone, of those that there were, has changed. -/
structure Only (b : Nat) (w w' : World) : Prop where
  os : w'.os = w.os
  tape : w'.tape = w.tape
  output : w'.output = w.output
  size : w.heap.size ≤ w'.heap.size
  block : ∀ k, k < w.heap.size → k ≠ b → w'.heap[k]? = w.heap[k]?

theorem Only.refl (b : Nat) (w : World) : Only b w w := ⟨rfl, rfl, rfl, Nat.le_refl _, fun _ _ _ => rfl⟩
theorem Only.trans {b : Nat} {a c d : World} (h : Only b a c) (k : Only b c d) : Only b a d :=
  ⟨k.os.trans h.os, k.tape.trans h.tape, k.output.trans h.output, Nat.le_trans h.size k.size, fun i hi hb => (k.block i (Nat.lt_of_lt_of_le hi h.size) hb).trans (h.block i hi hb)⟩
theorem Only.of_below {b : Nat} {a c : World} (h : Below a.heap.size a c) : Only b a c := ⟨h.os, h.tape, h.output, h.size, fun k hk _ => h.block k hk⟩
theorem Only.drewN {b : Nat} {a c : World} (h : Only b a c) (n : Nat) : Only b a (c.drewN n) := ⟨h.os, h.tape, h.output, h.size, h.block⟩
theorem Only.setCell {b : Nat} {a c : World} (h : Only b a c) (i : Nat) (v : Value) : Only b a (c.setCell ⟨b, i, none⟩ v) where
  os := h.os
  tape := h.tape
  output := h.output
  size := by rw [World.size_setCell]; exact h.size
  block := fun k hk hb => by rw [Deep.blk_setCell_other _ _ _ _ hb]; exact h.block k hk hb
theorem Only.below {b B : Nat} {a c d : World} (h : Below B a c) (hB : B ≤ b) (k : Only b c d) (hc : B ≤ c.heap.size) : Below B a d :=
  ⟨k.os.trans h.os, k.tape.trans h.tape, k.output.trans h.output, Nat.le_trans h.size k.size, fun i hi => (k.block i (Nat.lt_of_lt_of_le hi hc) (by omega)).trans (h.block i hi)⟩

end Go.Proofs.Yteikihidblcljaa

/- The walk of put. -/
namespace Go.Proofs.Yteikihidblcljaa
open Go.RowKit
set_option linter.unusedSimpArgs false
set_option linter.unusedVariables false


theorem put_words (hi lo r : Nat) (h1 : hi < 18446744073709551616) (h2 : lo < 18446744073709551616) (h4 : r < 64) :
    IntKind.u64.wrap ((lo : Int) * 2 ^ r) = dZ (((hi : Int) * 18446744073709551616 + lo) * 2 ^ r) 0 ∧
    bits BinOp.or IntKind.u64 (IntKind.u64.wrap ((hi : Int) * 2 ^ r)) ((lo : Int) / 2 ^ (64 - r)) = dZ (((hi : Int) * 18446744073709551616 + lo) * 2 ^ r) 1 ∧
    (hi : Int) / 2 ^ (64 - r) = dZ (((hi : Int) * 18446744073709551616 + lo) * 2 ^ r) 2 ∧
    (∀ j, 3 ≤ j → dZ (((hi : Int) * 18446744073709551616 + lo) * 2 ^ r) j = 0) ∧ 0 ≤ ((hi : Int) * 18446744073709551616 + lo) * 2 ^ r := by
  obtain ⟨S, hS⟩ : ∃ S : Nat, 2 ^ r = S := ⟨_, rfl⟩
  obtain ⟨T, hT⟩ : ∃ T : Nat, 2 ^ (64 - r) = T := ⟨_, rfl⟩
  have ST : S * T = 18446744073709551616 := by rw [← hS, ← hT, ← Nat.pow_add, show r + (64 - r) = 64 by omega]
  have S0 : 0 < S := by rw [← hS]; exact Nat.pow_pos (by decide)
  have T0 : 0 < T := by rw [← hT]; exact Nat.pow_pos (by decide)
  have eS : (2 : Int) ^ r = (S : Int) := by rw [← hS]; push_cast; rfl
  have eT : (2 : Int) ^ (64 - r) = (T : Int) := by rw [← hT]; push_cast; rfl
  have a := Nat.div_add_mod lo T
  have b := Nat.div_add_mod hi T
  have am := Nat.mod_lt lo T0
  have bm := Nat.mod_lt hi T0
  have aS : lo / T < S := by rw [Nat.div_lt_iff_lt_mul T0, ST]; exact h2
  have bS : hi / T < S := by rw [Nat.div_lt_iff_lt_mul T0, ST]; exact h1
  have key : ∀ x : Nat, x * S = x / T * 18446744073709551616 + x % T * S := fun x => by
    have c := Nat.div_add_mod x T
    have : x * S = (T * (x / T) + x % T) * S := by rw [c]
    rw [this, Nat.add_mul, Nat.mul_comm T, Nat.mul_assoc, Nat.mul_comm T S, ST]
  have low : ∀ x : Nat, x % T * S + S ≤ 18446744073709551616 := fun x => by
    have c := Nat.mod_lt x T0
    have : (x % T + 1) * S ≤ T * S := Nat.mul_le_mul_right _ c
    rw [Nat.mul_comm T, ST, Nat.add_mul, Nat.one_mul] at this
    exact this
  have kl := key lo
  have kh := key hi
  have ll := low lo
  have lh := low hi
  have w0 : IntKind.u64.wrap ((lo : Int) * 2 ^ r) = ((lo % T * S : Nat) : Int) := by
    rw [eS, ← Int.natCast_mul, kl, IntKind.wrap_u64]; omega
  have w1 : IntKind.u64.wrap ((hi : Int) * 2 ^ r) = ((hi % T * S : Nat) : Int) := by
    rw [eS, ← Int.natCast_mul, kh, IntKind.wrap_u64]; omega
  have eor : bits BinOp.or IntKind.u64 ((hi % T * S : Nat) : Int) ((lo / T : Nat) : Int) = ((hi % T * S + lo / T : Nat) : Int) := by
    rw [u64_or_nat _ _ (by omega) (by omega)]
    have := Nat.two_pow_add_eq_or_of_lt (i := r) (b := lo / T) (by rw [hS]; exact aS) (hi % T)
    rw [hS, Nat.mul_comm S] at this
    rw [this]
  have P1 : PW 1 = 18446744073709551616 := by rw [PW_nat]; rfl
  have P2 : PW 2 = 18446744073709551616 * 18446744073709551616 := by rw [PW_nat]; rfl
  have P3 : PW 3 = 18446744073709551616 * 18446744073709551616 * 18446744073709551616 := by rw [PW_nat]; rfl
  obtain ⟨Y, hY⟩ : ∃ Y, ((hi : Int) * 18446744073709551616 + lo) * 2 ^ r = Y := ⟨_, rfl⟩
  have eY : Y = ((hi / T : Nat) : Int) * (18446744073709551616 * 18446744073709551616) + ((hi % T * S + lo / T : Nat) : Int) * 18446744073709551616 + ((lo % T * S : Nat) : Int) := by
    rw [← hY, eS, Int.add_mul, Int.mul_right_comm, ← Int.natCast_mul, ← Int.natCast_mul, kl, kh]; omega
  have y0 : 0 ≤ Y := by omega
  have m1 : Y % PW 1 = ((lo % T * S : Nat) : Int) := by rw [P1, eY]; omega
  have m2 : Y % PW 2 = ((lo % T * S : Nat) : Int) + ((hi % T * S + lo / T : Nat) : Int) * PW 1 := by rw [P2, P1, eY]; omega
  have m3 : Y % PW 3 = Y := Int.emod_eq_of_lt y0 (by rw [P3, eY]; omega)
  have d0 : dZ Y 0 = ((lo % T * S : Nat) : Int) := (dZ_of Y 0 _ 0 (by rw [m1, PW_zero]; omega) (Int.le_refl _) (by rw [PW_zero]; decide)).1
  have d1 : dZ Y 1 = ((hi % T * S + lo / T : Nat) : Int) := (dZ_of Y 1 _ _ m2 (by omega) (by rw [P1]; omega)).1
  have d2 : dZ Y 2 = ((hi / T : Nat) : Int) := by
    refine (dZ_of Y 2 _ (((lo % T * S : Nat) : Int) + ((hi % T * S + lo / T : Nat) : Int) * PW 1) (by rw [m3, P2, P1]; omega) (by rw [P1]; omega) (by rw [P2, P1]; omega)).1
  rw [hY, d0, d1, d2, eT]
  refine ⟨w0, ?_, rfl, fun j hj => dZ_small Y j y0 ?_, y0⟩
  · rw [w1, ← eor]; rfl
  · have : PW 3 ≤ PW j := by
      rw [show j = 3 + (j - 3) by omega, PW_add]
      have := PW_pos (j - 3)
      have h3 := PW_pos 3
      have := Int.mul_le_mul_of_nonneg_left (a := 1) (b := PW (j - 3)) (c := PW 3) (by omega) (by omega)
      omega
    have h3 : Y < PW 3 := by rw [← m3]; exact (modZ_bd Y 3).2
    omega

/-- The cells of an accumulator whose first j words are Z's, the others z's. -/
def accM (z Z : Int) (j : Nat) (up dn : Bool) (m : Nat) : Value := if m < j then .int .u64 (dZ Z m) else accF z up dn m
theorem accM_zero (z Z : Int) (up dn : Bool) : accM z Z 0 up dn = accF z up dn := rfl
theorem accM_low (z Z : Int) (k : Nat) (up dn : Bool) (h : ∀ m, m < k → dZ Z m = dZ z m) (hk : k ≤ 68) (m : Nat) : accF z up dn m = accM z Z k up dn m := by
  unfold accM accF
  by_cases h1 : m < k
  · rw [if_pos h1, if_pos (by omega), h m h1]
  · rw [if_neg h1]
theorem accM_set (z Z : Int) (j : Nat) (up dn : Bool) (m : Nat) : (if m = j then .int .u64 (dZ Z j) else accM z Z j up dn m) = accM z Z (j + 1) up dn m := by
  unfold accM
  by_cases h1 : m = j
  · rw [if_pos h1, if_pos (by omega), h1]
  · rw [if_neg h1]
    by_cases h2 : m < j
    · rw [if_pos h2, if_pos (by omega)]
    · rw [if_neg h2, if_neg (by omega)]
theorem accM_end (z Z : Int) (up dn : Bool) (m : Nat) : accM z Z 68 up dn m = accF Z up dn m := by
  unfold accM accF
  by_cases h1 : m < 68
  · rw [if_pos h1, if_pos h1]
  · rw [if_neg h1, if_neg h1, if_neg h1]

theorem dZ_add_low (z Y : Int) (k m : Nat) (h : m < k) : dZ (z + Y * PW k) m = dZ z m := by
  have e : (z + Y * PW k) % PW (m + 1) = z % PW (m + 1) := by
    rw [show k = m + 1 + (k - m - 1) by omega, PW_add, Int.mul_comm Y, Int.mul_assoc, Int.add_mul_emod_self_left]
  exact (dZ_of _ m (dZ z m) (z % PW m) (by rw [e, modZ_succ]) (modZ_bd z m).1 (modZ_bd z m).2).1


set_option maxHeartbeats 1600000 in
set_option maxRecDepth 100000 in
theorem put_add (b : Nat) (z : Int) (up dn : Bool) (hi lo k r : Nat) (w : World) (h : AccIs w b z up dn) (h1 : hi < 18446744073709551616) (h2 : lo < 18446744073709551616) (h3 : k ≤ 65) (h4 : r < 64) :
    Calls Try.prog 54 #[.pointer (some ⟨b, 0, none⟩), .int .u64 hi, .int .u64 lo, .int .i64 ((64 * k + r : Nat) : Int), .bool false] w fun e w' => e = .returned (.tuple #[]) ∧
      AccIs w' b (z + ((hi : Int) * 18446744073709551616 + lo) * 2 ^ r * PW k) up dn ∧ Only b w w' := by
  obtain ⟨q0, q1, q2, q3, q4⟩ := put_words hi lo r h1 h2 h4
  obtain ⟨Y, hY⟩ : ∃ Y, ((hi : Int) * 18446744073709551616 + lo) * 2 ^ r = Y := ⟨_, rfl⟩
  rw [hY] at q0 q1 q2 q3 q4 ⊢
  have Q0 := Hd.mk q0
  have Q1 := Hd.mk q1
  have Q2 := Hd.mk q2
  have Q3 := Hd.mk q3
  clear q0 q1 q2 q3 q4 hY
  have e1 : ((64 * k + r : Nat) : Int) / 64 = k := by omega
  have e2 : ((64 * k + r : Nat) : Int) % 64 = r := by omega
  have p0 : (0 : Int) ≤ ((64 * k + r : Nat) : Int) := by omega
  have r0 : (0 : Int) ≤ (r : Int) := by omega
  have r1 : (r : Int) ≤ 63 := by omega
  generalize ((64 * k + r : Nat) : Int) = n at *
  have H := Hd.mk h
  have hl : Hd (∀ m, m < k → dZ (z + Y * PW k) m = dZ z m) := ⟨fun m hm => dZ_add_low z Y k m hm⟩
  have hm0 : (Y * PW k) % PW k = 0 := Int.mul_emod_left _ _
  have hm1 : (z + Y * PW k) % PW k = z % PW k := Int.add_mul_emod_self_right _ _ _
  have HM := Hd.mk (And.intro hm0 hm1)
  have HZ : Hd (∀ j c, 0 ≤ c → c ≤ 1 → c * PW j + (z + Y * PW k) % PW j = z % PW j + (Y * PW k) % PW j → ∃ c', 0 ≤ c' ∧ c' ≤ 1 ∧ c' * PW (j + 1) + (z + Y * PW k) % PW (j + 1) = z % PW (j + 1) + (Y * PW k) % PW (j + 1) ∧ ∀ w, (callFunc 67 #[.int .u64 (dZ z j), .int .u64 (dZ (Y * PW k) j), .int .u64 c]).run Try.prog w = .ok (.value (.tuple #[.int .u64 (dZ (z + Y * PW k) j), .int .u64 c'])) w) := ⟨fun j c c0 c1 hc => by
    have hd := dZ_bd z j
    have hy := dZ_bd (Y * PW k) j
    obtain ⟨s1, s2⟩ := addZ_step z (Y * PW k) c j hc
    refine ⟨(dZ z j + dZ (Y * PW k) j + c) / 18446744073709551616, by omega, by omega, s2, fun w => ?_⟩
    rw [add64_run (dZ z j) (dZ (Y * PW k) j) c hd.1 hy.1 c0 c1 w, show (dZ z j + dZ (Y * PW k) j + c) % 18446744073709551616 = dZ (z + Y * PW k) j from s1]⟩
  have HD : Hd (∀ j, k + 3 ≤ j → dZ (Y * PW k) j = 0) := ⟨fun j hj => by rw [show j = k + (j - k) by omega, dZ_shift]; exact Q3.out _ (by omega)⟩
  clear h hm0 hm1 Q3
  obtain ⟨Z, hZ⟩ : ∃ Z, z + Y * PW k = Z := ⟨_, rfl⟩
  rw [hZ] at hl HM HZ ⊢
  clear hZ
  go_enter Try.func54, Try.ntmps54
  go_wp2_with fail
  go_region
  go_wp2_with fail
  rw [e1, Q0.out, Q1.out, Q2.out]
  have HB : Hd (Only b w (w.alloc (.cells #[.int .u64 (dZ Y 0), .int .u64 (dZ Y 1), .int .u64 (dZ Y 2)] 150)).drew) := ⟨(Only.of_below ((Below.refl _ _).alloc (Nat.le_refl _) _)).drewN 1⟩
  have HX : Hd ((w.alloc (.cells #[.int .u64 (dZ Y 0), .int .u64 (dZ Y 1), .int .u64 (dZ Y 2)] 150)).drew.rowIs w.heap.size 150 3 (fun j => .int .u64 (dZ Y j))) := ⟨(World.rowIs_alloc w #[.int .u64 (dZ Y 0), .int .u64 (dZ Y 1), .int .u64 (dZ Y 2)] 150 (fun j => .int .u64 (dZ Y j)) (fun i hi => by
    rcases (by simp at hi; omega : i = 0 ∨ i = 1 ∨ i = 2) with rfl | rfl | rfl <;> rfl)).drew⟩
  have HA : Hd (AccIs (w.alloc (.cells #[.int .u64 (dZ Y 0), .int .u64 (dZ Y 1), .int .u64 (dZ Y 2)] 150)).drew b z up dn) := ⟨(World.rowIs.alloc H.out _).drew⟩
  have BX : Hd (b < w.heap.size) := ⟨H.out.lt⟩
  clear H Q0 Q1 Q2 e1 e2 p0 r0 r1
  generalize (w.alloc (.cells #[.int .u64 (dZ Y 0), .int .u64 (dZ Y 1), .int .u64 (dZ Y 2)] 150)).drew = w1 at *
  obtain ⟨bx, hbx⟩ : ∃ bx, w.heap.size = bx := ⟨_, rfl⟩
  rw [hbx] at HX ⊢
  rw [hbx] at BX
  clear hbx
  go_loopw [13, 14] (fun cv iv wr => ∃ (j : Nat) (c : Int), k ≤ j ∧ j ≤ 68 ∧ iv = .int .i64 j ∧ cv = .int .u64 c ∧ 0 ≤ c ∧ c ≤ 1 ∧ Hd (wr.rowIs b 96 70 (accM z Z j up dn)) ∧ Hd (wr.rowIs bx 150 3 (fun j => .int .u64 (dZ Y j))) ∧ Hd (c * PW j + Z % PW j = z % PW j + (Y * PW k) % PW j) ∧ Hd (Only b w wr)) (fun _ i _ => 68 - (intOf i).toNat)
  case atStart =>
    refine ⟨k, 0, Nat.le_refl _, by omega, rfl, rfl, Int.le_refl _, by decide, ⟨World.rowIs.congr HA.out fun m _ => accM_low z _ k up dn hl.out (by omega) m⟩, HX, ⟨?_⟩, HB⟩
    rw [HM.out.1, HM.out.2]; omega
  case round =>
    clear HA HX HB
    obtain ⟨j, c, hkj, hj, rfl, rfl, c0, c1, HR, HX, HC, HB⟩ := hrel
    by_cases hlt : j < 68
    · have row : wr.cell? ⟨b, j, none⟩ = some (.int .u64 (dZ z j)) := by
        have := HR.out.cell (i := j) (by omega)
        unfold accM accF at this
        rwa [if_neg (by omega), if_pos hlt] at this
      have frz := HR.out.frozen j
      obtain ⟨c', d0, d1, hcc, hop⟩ := HZ.out j c c0 c1 HC.out
      have HCC := Hd.mk hcc
      clear hcc
      have hlt' : (j : Int) < 68 := by omega
      have hkj' : (0 : Int) ≤ (j : Int) - k := by omega
      by_cases h5 : j < k + 3
      · have hcx : wr.cell? ⟨bx, j - k, none⟩ = some (.int .u64 (dZ (Y * PW k) j)) := by
          rw [HX.out.cell (by omega), ← dZ_shift Y k (j - k), show k + (j - k) = j by omega]
        have h5' : (j : Int) < k + 3 := by omega
        go_wp2_with fail
        go_region
        go_wp2_with fail
        refine ⟨⟨j + 1, c', by omega, by omega, by go_num, rfl, d0, d1, ⟨?_⟩, ⟨?_⟩, HCC, ⟨?_⟩⟩, by simp [intOf]; omega⟩
        · exact (HR.out.set j _).drew.congr fun m _ => accM_set z Z j up dn m
        · exact (HX.out.setOther (by show bx ≠ b; have := BX.out; omega) _).drew
        · exact (HB.out.setCell j _).drewN 1
      · have hz := HD.out j (by omega)
        rw [hz] at hop
        clear hz
        have h5' : ¬ (j : Int) < k + 3 := by omega
        go_wp2_with fail
        go_region
        go_wp2_with fail
        refine ⟨⟨j + 1, c', by omega, by omega, by go_num, rfl, d0, d1, ⟨?_⟩, ⟨?_⟩, HCC, ⟨?_⟩⟩, by simp [intOf]; omega⟩
        · exact (HR.out.set j _).drew.congr fun m _ => accM_set z Z j up dn m
        · exact (HX.out.setOther (by show bx ≠ b; have := BX.out; omega) _).drew
        · exact (HB.out.setCell j _).drewN 1
    · obtain rfl : j = 68 := by omega
      go_wp2_with fail
      go_end0
      exact ⟨rfl, HR.out.congr fun m _ => accM_end z Z up dn m, HB.out⟩

set_option maxHeartbeats 1600000 in
set_option maxRecDepth 100000 in
theorem put_sub (b : Nat) (z : Int) (up dn : Bool) (hi lo k r : Nat) (w : World) (h : AccIs w b z up dn) (h1 : hi < 18446744073709551616) (h2 : lo < 18446744073709551616) (h3 : k ≤ 65) (h4 : r < 64) :
    Calls Try.prog 54 #[.pointer (some ⟨b, 0, none⟩), .int .u64 hi, .int .u64 lo, .int .i64 ((64 * k + r : Nat) : Int), .bool true] w fun e w' => e = .returned (.tuple #[]) ∧
      AccIs w' b (z - ((hi : Int) * 18446744073709551616 + lo) * 2 ^ r * PW k) up dn ∧ Only b w w' := by
  obtain ⟨q0, q1, q2, q3, q4⟩ := put_words hi lo r h1 h2 h4
  obtain ⟨Y, hY⟩ : ∃ Y, ((hi : Int) * 18446744073709551616 + lo) * 2 ^ r = Y := ⟨_, rfl⟩
  rw [hY] at q0 q1 q2 q3 q4 ⊢
  have Q0 := Hd.mk q0
  have Q1 := Hd.mk q1
  have Q2 := Hd.mk q2
  have Q3 := Hd.mk q3
  clear q0 q1 q2 q3 q4 hY
  have e1 : ((64 * k + r : Nat) : Int) / 64 = k := by omega
  have e2 : ((64 * k + r : Nat) : Int) % 64 = r := by omega
  have p0 : (0 : Int) ≤ ((64 * k + r : Nat) : Int) := by omega
  have r0 : (0 : Int) ≤ (r : Int) := by omega
  have r1 : (r : Int) ≤ 63 := by omega
  generalize ((64 * k + r : Nat) : Int) = n at *
  have H := Hd.mk h
  have hl : Hd (∀ m, m < k → dZ (z - Y * PW k) m = dZ z m) := ⟨fun m hm => by rw [Int.sub_eq_add_neg, ← Int.neg_mul]; exact dZ_add_low z (-Y) k m hm⟩
  have hm0 : (Y * PW k) % PW k = 0 := Int.mul_emod_left _ _
  have hm1 : (z - Y * PW k) % PW k = z % PW k := by rw [Int.sub_eq_add_neg, ← Int.neg_mul]; exact Int.add_mul_emod_self_right _ _ _
  have HM := Hd.mk (And.intro hm0 hm1)
  have HZ : Hd (∀ j c, 0 ≤ c → c ≤ 1 → z % PW j + c * PW j = (z - Y * PW k) % PW j + (Y * PW k) % PW j → ∃ c', 0 ≤ c' ∧ c' ≤ 1 ∧ z % PW (j + 1) + c' * PW (j + 1) = (z - Y * PW k) % PW (j + 1) + (Y * PW k) % PW (j + 1) ∧ ∀ w, (callFunc 103 #[.int .u64 (dZ z j), .int .u64 (dZ (Y * PW k) j), .int .u64 c]).run Try.prog w = .ok (.value (.tuple #[.int .u64 (dZ (z - Y * PW k) j), .int .u64 c'])) w) := ⟨fun j c c0 c1 hc => by
    have hd := dZ_bd z j
    have hy := dZ_bd (Y * PW k) j
    obtain ⟨s1, s2⟩ := subZ_step z (Y * PW k) c j c0 c1 hc
    refine ⟨if dZ z j < dZ (Y * PW k) j + c then 1 else 0, by split <;> omega, by split <;> omega, s2, fun w => ?_⟩
    rw [sub64_run (dZ z j) (dZ (Y * PW k) j) c hd.1 hy.1 hy.2 c0 c1 w, show (dZ z j + 18446744073709551616 - dZ (Y * PW k) j - c) % 18446744073709551616 = dZ (z - Y * PW k) j from s1]⟩
  have HD : Hd (∀ j, k + 3 ≤ j → dZ (Y * PW k) j = 0) := ⟨fun j hj => by rw [show j = k + (j - k) by omega, dZ_shift]; exact Q3.out _ (by omega)⟩
  clear h hm0 hm1 Q3
  obtain ⟨Z, hZ⟩ : ∃ Z, z - Y * PW k = Z := ⟨_, rfl⟩
  rw [hZ] at hl HM HZ ⊢
  clear hZ
  go_enter Try.func54, Try.ntmps54
  go_wp2_with fail
  go_region
  go_wp2_with fail
  rw [e1, Q0.out, Q1.out, Q2.out]
  have HB : Hd (Only b w (w.alloc (.cells #[.int .u64 (dZ Y 0), .int .u64 (dZ Y 1), .int .u64 (dZ Y 2)] 150)).drew) := ⟨(Only.of_below ((Below.refl _ _).alloc (Nat.le_refl _) _)).drewN 1⟩
  have HX : Hd ((w.alloc (.cells #[.int .u64 (dZ Y 0), .int .u64 (dZ Y 1), .int .u64 (dZ Y 2)] 150)).drew.rowIs w.heap.size 150 3 (fun j => .int .u64 (dZ Y j))) := ⟨(World.rowIs_alloc w #[.int .u64 (dZ Y 0), .int .u64 (dZ Y 1), .int .u64 (dZ Y 2)] 150 (fun j => .int .u64 (dZ Y j)) (fun i hi => by
    rcases (by simp at hi; omega : i = 0 ∨ i = 1 ∨ i = 2) with rfl | rfl | rfl <;> rfl)).drew⟩
  have HA : Hd (AccIs (w.alloc (.cells #[.int .u64 (dZ Y 0), .int .u64 (dZ Y 1), .int .u64 (dZ Y 2)] 150)).drew b z up dn) := ⟨(World.rowIs.alloc H.out _).drew⟩
  have BX : Hd (b < w.heap.size) := ⟨H.out.lt⟩
  clear H Q0 Q1 Q2 e1 e2 p0 r0 r1
  generalize (w.alloc (.cells #[.int .u64 (dZ Y 0), .int .u64 (dZ Y 1), .int .u64 (dZ Y 2)] 150)).drew = w1 at *
  obtain ⟨bx, hbx⟩ : ∃ bx, w.heap.size = bx := ⟨_, rfl⟩
  rw [hbx] at HX ⊢
  rw [hbx] at BX
  clear hbx
  go_loopw [13, 14] (fun cv iv wr => ∃ (j : Nat) (c : Int), k ≤ j ∧ j ≤ 68 ∧ iv = .int .i64 j ∧ cv = .int .u64 c ∧ 0 ≤ c ∧ c ≤ 1 ∧ Hd (wr.rowIs b 96 70 (accM z Z j up dn)) ∧ Hd (wr.rowIs bx 150 3 (fun j => .int .u64 (dZ Y j))) ∧ Hd (z % PW j + c * PW j = Z % PW j + (Y * PW k) % PW j) ∧ Hd (Only b w wr)) (fun _ i _ => 68 - (intOf i).toNat)
  case atStart =>
    refine ⟨k, 0, Nat.le_refl _, by omega, rfl, rfl, Int.le_refl _, by decide, ⟨World.rowIs.congr HA.out fun m _ => accM_low z _ k up dn hl.out (by omega) m⟩, HX, ⟨?_⟩, HB⟩
    rw [HM.out.1, HM.out.2]; omega
  case round =>
    clear HA HX HB
    obtain ⟨j, c, hkj, hj, rfl, rfl, c0, c1, HR, HX, HC, HB⟩ := hrel
    by_cases hlt : j < 68
    · have row : wr.cell? ⟨b, j, none⟩ = some (.int .u64 (dZ z j)) := by
        have := HR.out.cell (i := j) (by omega)
        unfold accM accF at this
        rwa [if_neg (by omega), if_pos hlt] at this
      have frz := HR.out.frozen j
      obtain ⟨c', d0, d1, hcc, hop⟩ := HZ.out j c c0 c1 HC.out
      have HCC := Hd.mk hcc
      clear hcc
      have hlt' : (j : Int) < 68 := by omega
      have hkj' : (0 : Int) ≤ (j : Int) - k := by omega
      by_cases h5 : j < k + 3
      · have hcx : wr.cell? ⟨bx, j - k, none⟩ = some (.int .u64 (dZ (Y * PW k) j)) := by
          rw [HX.out.cell (by omega), ← dZ_shift Y k (j - k), show k + (j - k) = j by omega]
        have h5' : (j : Int) < k + 3 := by omega
        go_wp2_with fail
        go_region
        go_wp2_with fail
        refine ⟨⟨j + 1, c', by omega, by omega, by go_num, rfl, d0, d1, ⟨?_⟩, ⟨?_⟩, HCC, ⟨?_⟩⟩, by simp [intOf]; omega⟩
        · exact (HR.out.set j _).drew.congr fun m _ => accM_set z Z j up dn m
        · exact (HX.out.setOther (by show bx ≠ b; have := BX.out; omega) _).drew
        · exact (HB.out.setCell j _).drewN 1
      · have hz := HD.out j (by omega)
        rw [hz] at hop
        clear hz
        have h5' : ¬ (j : Int) < k + 3 := by omega
        go_wp2_with fail
        go_region
        go_wp2_with fail
        refine ⟨⟨j + 1, c', by omega, by omega, by go_num, rfl, d0, d1, ⟨?_⟩, ⟨?_⟩, HCC, ⟨?_⟩⟩, by simp [intOf]; omega⟩
        · exact (HR.out.set j _).drew.congr fun m _ => accM_set z Z j up dn m
        · exact (HX.out.setOther (by show bx ≠ b; have := BX.out; omega) _).drew
        · exact (HB.out.setCell j _).drewN 1
    · obtain rfl : j = 68 := by omega
      go_wp2_with fail
      go_end0
      exact ⟨rfl, HR.out.congr fun m _ => accM_end z Z up dn m, HB.out⟩

end Go.Proofs.Yteikihidblcljaa

/- The walks of Acc's special, abs, Add. -/
namespace Go.Proofs.Yteikihidblcljaa
open Go.RowKit
set_option linter.unusedSimpArgs false
set_option linter.unusedVariables false

theorem AccIs.setUp {w : World} {b : Nat} {z : Int} {up dn : Bool} (h : AccIs w b z up dn) (u : Bool) : AccIs (w.setCell ⟨b, 68, none⟩ (.bool u)) b z u dn :=
  (World.rowIs.set h 68 (.bool u)).congr fun m hm => by
    unfold accF
    by_cases h1 : m = 68
    · rw [if_pos h1, if_neg (by omega), if_pos h1]
    · rw [if_neg h1, if_neg h1]
      by_cases h2 : m < 68
      · rw [if_pos h2, if_pos h2]
      · rw [if_neg h2, if_neg h2, if_neg h1]
theorem AccIs.setDn {w : World} {b : Nat} {z : Int} {up dn : Bool} (h : AccIs w b z up dn) (u : Bool) : AccIs (w.setCell ⟨b, 69, none⟩ (.bool u)) b z up u :=
  (World.rowIs.set h 69 (.bool u)).congr fun m hm => by
    unfold accF
    by_cases h1 : m = 69
    · rw [if_pos h1, if_neg (by omega), if_neg (by omega)]
    · rw [if_neg h1]
      by_cases h2 : m < 68
      · rw [if_pos h2, if_pos h2]
      · rw [if_neg h2, if_neg h2, if_pos (by omega), if_pos (by omega)]
theorem AccIs.drewN {w : World} {b : Nat} {z : Int} {up dn : Bool} (h : AccIs w b z up dn) (n : Nat) : AccIs (w.drewN n) b z up dn := h
theorem AccIs.drew {w : World} {b : Nat} {z : Int} {up dn : Bool} (h : AccIs w b z up dn) : AccIs w.drew b z up dn := h
theorem AccIs.below {w w' : World} {b : Nat} {z : Int} {up dn : Bool} (h : AccIs w b z up dn) (hb : Below w.heap.size w w') : AccIs w' b z up dn := World.rowIs.of_block h (hb.block b h.lt)
theorem AccIs.only {w w' : World} {b c : Nat} {z : Int} {up dn : Bool} (h : AccIs w b z up dn) (hb : Only c w w') (hc : b ≠ c) : AccIs w' b z up dn := World.rowIs.of_block h (hb.block b h.lt hc)

/-- What a float that is no number says. -/
def upB (x : Nat) : Bool := !fin x && !(!nn x && ng x)
def dnB (x : Nat) : Bool := !fin x && !(!nn x && !ng x)
/-- What a float is, in units of 2^-2148; 0, if it is no number. -/
def aZ (x : Nat) : Int := if fin x then SV x * (U1 : Int) else 0

theorem nfin_order (x : Nat) (hx : F64 x) (h : fin x = false) : (FloatKind.f64.format.order x 0 == some .lt) = (!nn x && ng x) ∧ (FloatKind.f64.format.order x 0 == some .gt) = (!nn x && !ng x) := by
  have z1 : nn 0 = false := by decide +kernel
  have z2 : rk 0 = 0 := by decide +kernel
  have z0 : F64 0 := ⟨by decide⟩
  rw [flt x 0 hx z0, fgt x 0 hx z0, z1, z2]
  have hm : mg x ≠ 0 := fun e => by unfold fin at h; rw [e] at h; revert h; decide +kernel
  cases hg : ng x
  · rw [rk_of_pos hg, decide_eq_false (by omega), decide_eq_true (by omega)]; cases nn x <;> exact ⟨rfl, rfl⟩
  · rw [rk_of_neg hg, decide_eq_true (by omega), decide_eq_false (by omega)]; cases nn x <;> exact ⟨rfl, rfl⟩

set_option maxHeartbeats 800000 in
theorem special_any (b : Nat) (z : Int) (up dn : Bool) (x : Nat) (w : World) (h : AccIs w b z up dn) (hx : F64 x) (hf : fin x = false) :
    Calls Try.prog 53 #[.pointer (some ⟨b, 0, none⟩), .float .f64 x] w fun e w' => e = .returned (.tuple #[]) ∧ AccIs w' b z (up || upB x) (dn || dnB x) ∧ Only b w w' := by
  obtain ⟨o1, o2⟩ := nfin_order x hx hf
  have eu : upB x = !(!nn x && ng x) := by unfold upB; rw [hf]; rfl
  have ed : dnB x = !(!nn x && !ng x) := by unfold dnB; rw [hf]; rfl
  rw [eu, ed]
  generalize (!nn x && ng x) = p at *
  generalize (!nn x && !ng x) = q at *
  have H := Hd.mk h
  have c1 := h.up
  have c2 := h.dn
  have f1 := h.frozen 68
  have f2 := h.frozen 69
  clear h eu ed
  cases up <;> cases dn
  all_goals
    go_enter Try.func53, Try.ntmps53
    go_wp2_with fail
    go_end0
    exact ⟨rfl, (H.out.setUp _).setDn _, ((Only.refl b w).setCell 68 _).setCell 69 _⟩

theorem u64_wrap_in {n : Int} (h0 : 0 ≤ n) (h : n < 18446744073709551616) : IntKind.u64.wrap n = n := by rw [IntKind.wrap_u64]; omega

set_option maxHeartbeats 800000 in
theorem abs_any (n : Int) (h0 : -9007199254740992 ≤ n) (h1 : n ≤ 9007199254740992) (w : World) :
    Calls Try.prog 55 #[.int .i64 n] w fun e w' => e = .returned (.int .u64 (n.natAbs : Nat)) ∧ w = w' := by
  by_cases hn : n < 0
  · have e : Hd (-n = (n.natAbs : Int)) := ⟨by omega⟩
    go_enter Try.func55, Try.ntmps55
    go_wp2_with fail
    go_ret
    exact ⟨by rw [← e.out]; rfl, rfl⟩
  · have e : Hd (n = (n.natAbs : Int)) := ⟨by omega⟩
    have h2 : 0 ≤ n := by omega
    clear hn
    go_enter Try.func55, Try.ntmps55
    go_wp2_with fail
    go_ret
    exact ⟨by rw [← e.out]; rfl, rfl⟩

theorem pow_split (v : Int) (n : Nat) : v * 2 ^ (n % 64) * PW (n / 64) = v * ((2 ^ n : Nat) : Int) := by
  rw [PW_nat, Int.mul_assoc]
  congr 1
  rw [show ((2 : Int) ^ (n % 64)) = ((2 ^ (n % 64) : Nat) : Int) by push_cast; rfl, ← Int.natCast_mul, ← Nat.pow_add]
  congr 2; omega

def W64 : Nat := 18446744073709551616
theorem W64_int : ((W64 : Nat) : Int) = 18446744073709551616 := rfl
theorem put_val (hi lo n : Nat) : ((hi : Int) * 18446744073709551616 + lo) * ((2 ^ n : Nat) : Int) = (((hi * W64 + lo) * 2 ^ n : Nat) : Int) := by
  rw [Int.natCast_mul, Int.natCast_add, Int.natCast_mul, W64_int]

attribute [irreducible] W64
/-- put, n bits on. -/
theorem put_any (b : Nat) (z : Int) (up dn : Bool) (hi lo n : Nat) (neg : Bool) (w : World) (h : AccIs w b z up dn) (h1 : hi < 18446744073709551616) (h2 : lo < 18446744073709551616) (h3 : n ≤ 4200) :
    Calls Try.prog 54 #[.pointer (some ⟨b, 0, none⟩), .int .u64 hi, .int .u64 lo, .int .i64 (n : Int), .bool neg] w fun e w' => e = .returned (.tuple #[]) ∧
      AccIs w' b (z + sg neg ((hi * W64 + lo) * 2 ^ n)) up dn ∧ Only b w w' := by
  have e : ((64 * (n / 64) + n % 64 : Nat) : Int) = n := by omega
  cases neg
  · have := put_add b z up dn hi lo (n / 64) (n % 64) w h h1 h2 (by omega) (by omega)
    rw [e, pow_split, put_val] at this
    rw [sg_f]
    exact this
  · have := put_sub b z up dn hi lo (n / 64) (n % 64) w h h1 h2 (by omega) (by omega)
    rw [e, pow_split, put_val, Int.sub_eq_add_neg] at this
    rw [sg_t]
    exact this

end Go.Proofs.Yteikihidblcljaa

/- bits.Mul64 by the shelf's contract; the walks of Acc's Add and Prod. -/
namespace Go.Proofs.Yteikihidblcljaa
open Go.RowKit Go.Shelf
set_option linter.unusedSimpArgs false
set_option linter.unusedVariables false

def lays264_ren : Go.Shelf.Ren := ⟨fun | 264 => 63 | n => n, fun | 53 => 39 | 46 => 149 | n => n, fun | n => n⟩
theorem lays264 : Go.Proofs.Lays.n264 Try.prog lays264_ren := {
  mixed := by kernel_rfl
  f264 := Try.func63.trans (congrArg some (by kernel_rfl))
  t46 := Try.underlying149
  a46 := Try.isAgg149
  z46 := Try.sizeOf149
  v46 := Try.zeroValue149
  t53 := Try.underlying39
  a53 := Try.isAgg39
  z53 := Try.sizeOf39
  v53 := Try.zeroValue39 }

theorem mul64_any (x y : Nat) (hx : x < 18446744073709551616) (hy : y < 18446744073709551616) (w : World) :
    Calls Try.prog 63 #[.int .u64 x, .int .u64 y] w fun e w' => e = .returned (.tuple #[.int .u64 ((x * y / W64 : Nat) : Int), .int .u64 ((x * y % W64 : Nat) : Int)]) ∧ w = w' := by
  refine (Any.bits_Mul64 lays264 x y hx hy w).mono ?_
  rintro e w' ⟨rfl, rfl⟩
  exact ⟨by unfold W64; rfl, rfl⟩

theorem aZ_inf (x : Nat) (h : fin x = false) : aZ x = 0 := by unfold aZ; rw [h]; rfl
theorem flagB_fin (x : Nat) (h : fin x = true) : upB x = false ∧ dnB x = false := by unfold upB dnB; rw [h]; exact ⟨rfl, rfl⟩
theorem SV_mg0 (x : Nat) (h : mg x = 0) : SV x = 0 := by rw [SV_sg, h, VV_zero]; unfold sg; split <;> rfl
theorem aZ_zero (x : Nat) (h : mg x = 0) : aZ x = 0 := by unfold aZ; rw [SV_mg0 x h]; split <;> simp

theorem spM_facts (x : Nat) (hx : F64 x) (h : fin x = true) (h0 : mg x ≠ 0) : (spM x != 0) = true ∧ decide (spM x < 0) = ng x ∧ (spM x).natAbs = mnt x ∧ -9007199254740992 ≤ spM x ∧ spM x ≤ 9007199254740992 := by
  have hm : mnt x ≠ 0 := fun e => h0 ((mnt_zero x).1 e)
  have hl := mnt_lt x
  unfold spM
  cases ng x
  · simp only [Bool.false_eq_true, if_false]
    exact ⟨by rw [bne_iff_ne]; omega, decide_eq_false (by omega), by omega, by omega, by omega⟩
  · simp only [if_true]
    exact ⟨by rw [bne_iff_ne]; omega, decide_eq_true (by omega), by omega, by omega, by omega⟩

theorem sg_mul_nat (s : Bool) (a b : Nat) : sg s (a * b) = sg s a * (b : Int) := by
  unfold sg; cases s
  · simp only [Bool.false_eq_true, if_false]; rw [Int.natCast_mul]
  · simp only [if_true]; rw [Int.natCast_mul, Int.neg_mul]
theorem sg_mul_sg (s t : Bool) (a b : Nat) : sg (s != t) (a * b) = sg s a * sg t b := by
  unfold sg; cases s <;> cases t <;> simp [Int.neg_mul, Int.mul_neg]

/-- A number, in units of 2^-2148. -/
theorem add_units (x : Nat) (hx : F64 x) (h : fin x = true) : sg (ng x) ((0 * W64 + mnt x) * 2 ^ (exq x + 2148).toNat) = SV x * (U1 : Int) := by
  have e := exq_ge x
  rw [SV_sg, VV_mnt x hx h, Nat.zero_mul, Nat.zero_add, ← sg_mul_nat, Nat.mul_assoc]
  unfold U1
  rw [← Nat.pow_add]
  congr 3
  have := dp_eq
  omega
theorem prod_units (x y : Nat) (hx : F64 x) (hy : F64 y) (h : fin x = true) (h' : fin y = true) : sg (ng x != ng y) ((mnt x * mnt y / W64 * W64 + mnt x * mnt y % W64) * 2 ^ (exq x + exq y + 2148).toNat) = SV x * SV y := by
  have e := exq_ge x
  have e' := exq_ge y
  rw [SV_sg, SV_sg, VV_mnt x hx h, VV_mnt y hy h', ← sg_mul_sg, Nat.mul_comm _ W64, Nat.div_add_mod, Nat.mul_mul_mul_comm, ← Nat.pow_add]
  congr 3
  omega

set_option maxHeartbeats 1600000 in
theorem accAdd_any (b : Nat) (z : Int) (up dn : Bool) (x : Nat) (w : World) (h : AccIs w b z up dn) (hx : F64 x) :
    Calls Try.prog 10 #[.pointer (some ⟨b, 0, none⟩), .float .f64 x] w fun e w' => e = .returned (.tuple #[]) ∧ AccIs w' b (z + aZ x) (up || upB x) (dn || dnB x) ∧ Only b w w' := by
  cases hf : fin x
  · have HS := Hd.mk (split_none x hx hf)
    have HP := Hd.mk (special_any b z up dn x w h hx hf)
    rw [aZ_inf x hf, Int.add_zero]
    clear h hx hf
    go_enter Try.func10, Try.ntmps10
    go_wp2_with fail
    refine (HS.out _).mono ?_; rintro e w' ⟨rfl, rfl⟩
    go_wp2_with fail
    refine HP.out.mono ?_; rintro e w1 ⟨rfl, ha, ho⟩
    have HA := Hd.mk ha
    have HO := Hd.mk ho
    clear ha ho
    go_wp2_with fail
    first | go_end0 | (refine bodyPost_ret (results_none rfl _ _ _) rfl ?_)
    exact ⟨rfl, HA.out, HO.out⟩
  obtain ⟨f1, f2⟩ := flagB_fin x hf
  rw [f1, f2, Bool.or_false, Bool.or_false]
  by_cases h0 : mg x = 0
  · have HS := Hd.mk (split_zero x hx h0)
    have H := Hd.mk h
    rw [aZ_zero x h0, Int.add_zero]
    clear h hx hf h0 f1 f2
    go_enter Try.func10, Try.ntmps10
    go_wp2_with fail
    refine (HS.out _).mono ?_; rintro e w' ⟨rfl, rfl⟩
    go_wp2_with fail
    first | go_end0 | (refine bodyPost_ret (results_none rfl _ _ _) rfl ?_)
    exact ⟨rfl, H.out, Only.refl _ _⟩
  · have HS := Hd.mk (split_num x hx hf h0)
    obtain ⟨s1, s2, s3, s4, s5⟩ := spM_facts x hx hf h0
    have HB := Hd.mk (abs_any (spM x) s4 s5)
    rw [s3] at HB
    have e0 := exq_ge x
    have e1 := exq_bd x hf
    have hl := mnt_lt x
    have hp := put_any b z up dn 0 (mnt x) (exq x + 2148).toNat (ng x) w h (by decide) (by omega) (by omega)
    rw [add_units x hx hf, show (((exq x + 2148).toNat : Nat) : Int) = exq x + 2148 by omega] at hp
    have HP := Hd.mk hp
    have HZ : Hd (aZ x = SV x * (U1 : Int)) := ⟨by unfold aZ; rw [hf]; rfl⟩
    rw [HZ.out]
    generalize SV x * (U1 : Int) = V at *
    have g0 : -1074 ≤ exq x := e0
    have g1 : exq x ≤ 971 := by omega
    clear h hx hf h0 f1 f2 s3 s4 s5 e0 e1 hl hp HZ
    generalize exq x = ex at *
    generalize spM x = m at *
    generalize mnt x = M at *
    generalize ng x = s at *
    go_enter Try.func10, Try.ntmps10
    go_wp2_with fail
    refine (HS.out _).mono ?_; rintro e w' ⟨rfl, rfl⟩
    go_wp2_with fail
    refine (HB.out _).mono ?_; rintro e w' ⟨rfl, rfl⟩
    go_wp2_with fail
    refine HP.out.mono ?_; rintro e w1 ⟨rfl, ha, ho⟩
    have HA := Hd.mk ha
    have HO := Hd.mk ho
    clear ha ho
    go_wp2_with fail
    first | go_end0 | (refine bodyPost_ret (results_none rfl _ _ _) rfl ?_)
    exact ⟨rfl, HA.out, HO.out⟩

theorem aZ_cn (x : Nat) : aZ (cn x) = aZ x := by
  cases h : nn x
  · rw [cn_of x h]
  · have e : ∀ y, nn y = true → fin y = false := fun y hy => by
      cases hf : fin y
      · rfl
      · rw [nn_fin y hf] at hy; cases hy
    rw [aZ_inf _ (e _ (by rw [nn_cn]; exact h)), aZ_inf _ (e _ h)]
theorem flagB_cn (x : Nat) : upB (cn x) = upB x ∧ dnB (cn x) = dnB x := by
  cases h : nn x
  · rw [cn_of x h]; exact ⟨rfl, rfl⟩
  · have e : ∀ y, nn y = true → fin y = false := fun y hy => by
      cases hf : fin y
      · rfl
      · rw [nn_fin y hf] at hy; cases hy
    have h' : nn (cn x) = true := by rw [nn_cn]; exact h
    unfold upB dnB
    rw [e _ h, e _ h', h, h']; exact ⟨rfl, rfl⟩
theorem fmul_cn2 (x y : Nat) (hx : F64 x) (hy : F64 y) : fmul (cn x) (cn y) = fmul x y := by unfold fmul; rw [mul_cn x y hx hy]

/-- What a product says. -/
def pZ (x y : Nat) : Int := if fin x && fin y then SV x * SV y else aZ (fmul x y)
def puB (x y : Nat) : Bool := if fin x && fin y then false else upB (fmul x y)
def pdB (x y : Nat) : Bool := if fin x && fin y then false else dnB (fmul x y)

set_option maxHeartbeats 1600000 in
theorem accProd_any (b : Nat) (z : Int) (up dn : Bool) (x y : Nat) (w : World) (h : AccIs w b z up dn) (hx : F64 x) (hy : F64 y) :
    Calls Try.prog 13 #[.pointer (some ⟨b, 0, none⟩), .float .f64 x, .float .f64 y] w fun e w' => e = .returned (.tuple #[]) ∧ AccIs w' b (z + pZ x y) (up || puB x y) (dn || pdB x y) ∧ Only b w w' := by
  have SX : Hd (∃ m e, (∀ w, Calls Try.prog 52 #[.float .f64 x] w fun en w' => en = .returned (.tuple #[.int .i64 m, .int .i64 e, .bool (fin x)]) ∧ w = w') ∧ (fin x = true → mg x = 0 → m = 0) ∧ (fin x = true → mg x ≠ 0 → m = spM x ∧ e = exq x)) := ⟨by
    cases hf : fin x
    · exact ⟨0, 0, split_none x hx hf, (fun h => by cases h), (fun h => by cases h)⟩
    · by_cases h0 : mg x = 0
      · exact ⟨0, 0, split_zero x hx h0, fun _ _ => rfl, fun _ h => absurd h0 h⟩
      · exact ⟨_, _, split_num x hx hf h0, fun _ h => absurd h h0, fun _ _ => ⟨rfl, rfl⟩⟩⟩
  have SY : Hd (∃ m e, (∀ w, Calls Try.prog 52 #[.float .f64 y] w fun en w' => en = .returned (.tuple #[.int .i64 m, .int .i64 e, .bool (fin y)]) ∧ w = w') ∧ (fin y = true → mg y = 0 → m = 0) ∧ (fin y = true → mg y ≠ 0 → m = spM y ∧ e = exq y)) := ⟨by
    cases hf : fin y
    · exact ⟨0, 0, split_none y hy hf, (fun h => by cases h), (fun h => by cases h)⟩
    · by_cases h0 : mg y = 0
      · exact ⟨0, 0, split_zero y hy h0, fun _ _ => rfl, fun _ h => absurd h0 h⟩
      · exact ⟨_, _, split_num y hy hf h0, fun _ h => absurd h h0, fun _ _ => ⟨rfl, rfl⟩⟩⟩
  obtain ⟨m, ex, sx, sx0, sx1⟩ := SX.out
  obtain ⟨n, ey, sy, sy0, sy1⟩ := SY.out
  clear SX SY
  cases hff : (fin x && fin y)
  · have hz : pZ x y = aZ (fmul x y) ∧ puB x y = upB (fmul x y) ∧ pdB x y = dnB (fmul x y) := by unfold pZ puB pdB; rw [hff]; exact ⟨rfl, rfl, rfl⟩
    rw [hz.1, hz.2.1, hz.2.2]
    have HP : Hd (∀ w1, AccIs (w1.drewN (fcnt .mul x y)) b z up dn → Calls Try.prog 10 #[.pointer (some ⟨b, 0, none⟩), .float .f64 (fres .mul x y w1)] (w1.drewN (fcnt .mul x y)) fun e w' => e = .returned (.tuple #[]) ∧ AccIs w' b (z + aZ (fmul x y)) (up || upB (fmul x y)) (dn || dnB (fmul x y)) ∧ Only b (w1.drewN (fcnt .mul x y)) w') := ⟨fun w1 h1 => by
      have e : cn (fres .mul x y w1) = fmul x y := by rw [cn_fmul _ _ _ hx hy, fmul_cn2 x y hx hy]
      have := accAdd_any b z up dn (fres .mul x y w1) (w1.drewN (fcnt .mul x y)) h1 (F64_fres _ _ _ _)
      rw [← aZ_cn (fres .mul x y w1), ← (flagB_cn (fres .mul x y w1)).1, ← (flagB_cn (fres .mul x y w1)).2, e] at this
      exact this⟩
    have H := Hd.mk h
    clear h sx0 sx1 sy0 sy1 hz hx hy
    cases hfx : fin x
    · rw [hfx] at sx
      cases hfy : fin y
      all_goals
        rw [hfy] at sy
        have HX := Hd.mk sx
        have HY := Hd.mk sy
        clear sx sy hff hfx hfy
        go_enter Try.func13, Try.ntmps13
        go_wp2_with fail
        refine (HX.out _).mono ?_; rintro e w' ⟨rfl, rfl⟩
        go_wp2_with fail
        refine (HY.out _).mono ?_; rintro e w' ⟨rfl, rfl⟩
        go_wp2_with fail
        refine (HP.out _ (H.out.drewN _)).mono ?_; rintro e w1 ⟨rfl, ha, ho⟩
        have HA := Hd.mk ha
        have HO := Hd.mk (((Only.refl b w).drewN (fcnt .mul x y)).trans ho)
        clear ha ho
        go_wp2_with fail
        first | go_end0 | (refine bodyPost_ret (results_none rfl _ _ _) rfl ?_)
        exact ⟨rfl, HA.out, HO.out⟩
    · rw [hfx] at sx hff
      rw [Bool.true_and] at hff
      rw [hff] at sy
      have HX := Hd.mk sx
      have HY := Hd.mk sy
      clear sx sy hff hfx
      go_enter Try.func13, Try.ntmps13
      go_wp2_with fail
      refine (HX.out _).mono ?_; rintro e w' ⟨rfl, rfl⟩
      go_wp2_with fail
      refine (HY.out _).mono ?_; rintro e w' ⟨rfl, rfl⟩
      go_wp2_with fail
      refine (HP.out _ (H.out.drewN _)).mono ?_; rintro e w1 ⟨rfl, ha, ho⟩
      have HA := Hd.mk ha
      have HO := Hd.mk (((Only.refl b w).drewN (fcnt .mul x y)).trans ho)
      clear ha ho
      go_wp2_with fail
      first | go_end0 | (refine bodyPost_ret (results_none rfl _ _ _) rfl ?_)
      exact ⟨rfl, HA.out, HO.out⟩
  · have hz : pZ x y = SV x * SV y ∧ puB x y = false ∧ pdB x y = false := by unfold pZ puB pdB; rw [hff]; exact ⟨rfl, rfl, rfl⟩
    rw [hz.1, hz.2.1, hz.2.2, Bool.or_false, Bool.or_false]
    rw [Bool.and_eq_true] at hff
    obtain ⟨hfx, hfy⟩ := hff
    rw [hfx] at sx
    rw [hfy] at sy
    have H := Hd.mk h
    have HX := Hd.mk sx
    have HY := Hd.mk sy
    clear sx sy hz
    by_cases hx0 : mg x = 0
    · obtain rfl := sx0 hfx hx0
      rw [SV_mg0 x hx0, Int.zero_mul, Int.add_zero]
      clear sx0 sx1 sy0 sy1 h hfx hfy hx0
      go_enter Try.func13, Try.ntmps13
      go_wp2_with fail
      refine (HX.out _).mono ?_; rintro e w' ⟨rfl, rfl⟩
      go_wp2_with fail
      refine (HY.out _).mono ?_; rintro e w' ⟨rfl, rfl⟩
      go_wp2_with fail
      first | go_end0 | (refine bodyPost_ret (results_none rfl _ _ _) rfl ?_)
      exact ⟨rfl, H.out, Only.refl _ _⟩
    obtain ⟨rfl, rfl⟩ := sx1 hfx hx0
    obtain ⟨s1, s2, s3, s4, s5⟩ := spM_facts x hx hfx hx0
    by_cases hy0 : mg y = 0
    · obtain rfl := sy0 hfy hy0
      rw [SV_mg0 y hy0, Int.mul_zero, Int.add_zero]
      clear sx0 sx1 sy0 sy1 h hfx hfy hx0 hy0 s2 s3 s4 s5
      go_enter Try.func13, Try.ntmps13
      go_wp2_with fail
      refine (HX.out _).mono ?_; rintro e w' ⟨rfl, rfl⟩
      go_wp2_with fail
      refine (HY.out _).mono ?_; rintro e w' ⟨rfl, rfl⟩
      go_wp2_with fail
      first | go_end0 | (refine bodyPost_ret (results_none rfl _ _ _) rfl ?_)
      exact ⟨rfl, H.out, Only.refl _ _⟩
    obtain ⟨rfl, rfl⟩ := sy1 hfy hy0
    obtain ⟨t1, t2, t3, t4, t5⟩ := spM_facts y hy hfy hy0
    have HB := Hd.mk (abs_any (spM x) s4 s5)
    rw [s3] at HB
    have HC := Hd.mk (abs_any (spM y) t4 t5)
    rw [t3] at HC
    have l1 := mnt_lt x
    have l2 := mnt_lt y
    have HM := Hd.mk (mul64_any (mnt x) (mnt y) (by omega) (by omega))
    have e0 := exq_ge x
    have e1 := exq_bd x hfx
    have e2 := exq_ge y
    have e3 := exq_bd y hfy
    have hq : mnt x * mnt y / W64 < 18446744073709551616 := by
      have a : mnt x * mnt y < 9007199254740992 * 9007199254740992 := Nat.mul_lt_mul'' l1 l2
      have b := Nat.div_le_self (mnt x * mnt y) W64
      have c : mnt x * mnt y / W64 < W64 := Nat.div_lt_of_lt_mul (Nat.lt_of_lt_of_le a (by unfold W64; decide))
      unfold W64 at *; exact c
    have hr : mnt x * mnt y % W64 < 18446744073709551616 := by
      have := Nat.mod_lt (mnt x * mnt y) (show 0 < W64 by unfold W64; decide)
      unfold W64 at *; exact this
    have hp := put_any b z up dn (mnt x * mnt y / W64) (mnt x * mnt y % W64) (exq x + exq y + 2148).toNat (ng x != ng y) w h hq hr (by omega)
    rw [prod_units x y hx hy hfx hfy, show (((exq x + exq y + 2148).toNat : Nat) : Int) = exq x + exq y + 2148 by omega] at hp
    have HP := Hd.mk hp
    generalize SV x * SV y = V at *
    have g0 : -1074 ≤ exq x := e0
    have g1 : exq x ≤ 971 := by omega
    have g2 : -1074 ≤ exq y := e2
    have g3 : exq y ≤ 971 := by omega
    clear h hx hy hfx hfy hx0 hy0 s3 s4 s5 t3 t4 t5 e0 e1 e2 e3 l1 l2 hp hq hr sx0 sx1 sy0 sy1
    generalize mnt x * mnt y / W64 = Q at *
    generalize mnt x * mnt y % W64 = R at *
    generalize exq x = ex at *
    generalize exq y = ey at *
    generalize spM x = m at *
    generalize spM y = n at *
    generalize mnt x = M at *
    generalize mnt y = N at *
    generalize ng x = s at *
    generalize ng y = t at *
    go_enter Try.func13, Try.ntmps13
    go_wp2_with fail
    refine (HX.out _).mono ?_; rintro e w' ⟨rfl, rfl⟩
    go_wp2_with fail
    refine (HY.out _).mono ?_; rintro e w' ⟨rfl, rfl⟩
    go_wp2_with fail
    refine (HB.out _).mono ?_; rintro e w' ⟨rfl, rfl⟩
    go_wp2_with fail
    refine (HC.out _).mono ?_; rintro e w' ⟨rfl, rfl⟩
    go_wp2_with fail
    refine (HM.out _).mono ?_; rintro e w' ⟨rfl, rfl⟩
    go_wp2_with fail
    refine HP.out.mono ?_; rintro e w1 ⟨rfl, ha, ho⟩
    have HA := Hd.mk ha
    have HO := Hd.mk ho
    clear ha ho
    go_wp2_with fail
    first | go_end0 | (refine bodyPost_ret (results_none rfl _ _ _) rfl ?_)
    exact ⟨rfl, HA.out, HO.out⟩

end Go.Proofs.Yteikihidblcljaa

/- Arrays of 68 words by value; the walks of turned, Turn, Copy, Merge. -/
namespace Go.Proofs.Yteikihidblcljaa
open Go.RowKit
set_option linter.unusedSimpArgs false
set_option linter.unusedVariables false

/-- The words, by value. -/
def ws68 (z : Int) : Array Value := Array.ofFn (n := 68) fun i => .int .u64 (dZ z i)
theorem ws68_size (z : Int) : (ws68 z).size = 68 := by unfold ws68; rw [Array.size_ofFn]
theorem ws68_get (z : Int) (i : Nat) (h : i < 68) : (ws68 z)[i]? = some (.int .u64 (dZ z i)) := by
  unfold ws68; rw [Array.getElem?_ofFn, dif_pos h]
theorem ws68_one (z : Int) : (ws68 z).all (·.oneCell') = true := by
  unfold ws68
  rw [Array.all_eq_true]
  intro i hi
  rw [Array.getElem_ofFn]; rfl
theorem ws68_of (z : Int) (cs : Array Value) (hs : cs.size = 68) (h : ∀ i, i < 68 → cs[i]? = some (.int .u64 (dZ z i))) : cs = ws68 z := by
  refine Array.ext_getElem? fun i => ?_
  by_cases hi : i < 68
  · rw [h i hi, ws68_get z i hi]
  · rw [Array.getElem?_eq_none (by omega), Array.getElem?_eq_none (by rw [ws68_size]; omega)]
attribute [irreducible] ws68

theorem info_ws68 : (Try.prog.info? 94).map (·.size) = some 68 := by kernel_rfl
theorem info_acc : (Try.prog.info? 96).map (·.size) = some 70 := by kernel_rfl

section
variable {P : Program}
/-- A whole array, or its first part, read out of a block. -/
theorem run_loadVar_cells (w : World) (g : Nat) (ty : TypeId) (cs : Array Value) (d : TypeDesc) (hc : ∀ j v, cs[j]? = some v → w.cell? ⟨g, j, none⟩ = some v)
    (hu : P.underlying ty = some d) (hd : (match d with | .struct _ | .array _ _ => true | _ => false) = true) (hi : (P.info? ty).map (·.size) = some cs.size) :
    (loadVar ty ⟨g, 0, none⟩).run P w = .ok (.agg cs) w := by
  have hl : (loadCells ⟨g, 0, none⟩ cs.toList.length).run P w = .ok cs.toList.toArray w :=
    run_loadCells_list (P := P) w ⟨g, 0, none⟩ cs.toList (fun j v hv => by
      have hadd : (⟨g, 0, none⟩ : Addr).add j = ⟨g, j, none⟩ := by unfold Addr.add; split <;> simp_all
      rw [hadd]
      exact hc j v (by simpa using hv))
  cases hq : P.info? ty with
  | none => simp [hq] at hi
  | some i =>
    have hs : i.size = cs.size := by simpa [hq] using hi
    have hagg : (isAgg ty).run P w = .ok true w := by
      unfold isAgg
      rw [Sem.run_bind, run_underlying hu w]
      cases d <;> simp_all
    simp only [Array.length_toList, Array.toArray_toList] at hl
    simp [loadVar, Sem.run_bind, hagg, sizeOf, typeInfo, hq, hs, hl]

theorem wpList_load_cells {ops : Array Oper} {rest : List Oper} {o : Oper} {a : Act} {w : World} {Q : Exit → Act → World → Prop} (hgd : o.guard = none) (ty : TypeId) (x : Operand) (ho : o.op = .load ty x)
    (g : Nat) (hx : a.eval x = .pointer (some ⟨g, 0, none⟩)) (cs : Array Value) (d : TypeDesc) (hc : ∀ j v, cs[j]? = some v → w.cell? ⟨g, j, none⟩ = some v)
    (hu : P.underlying ty = some d) (hd : (match d with | .struct _ | .array _ _ => true | _ => false) = true) (hi : (P.info? ty).map (·.size) = some cs.size)
    (h : wpList P ops Q rest (a.put o.dst (.agg cs)) w) : wpList P ops Q (o :: rest) a w :=
  wpList_plain hgd fun _ hK => by
    unfold Oper.wp execOp
    simp only [ho, hx, Instr.loadAt, Instr.sureAddr, Sem.run_bind, Sem.run_pure, Result.andThen_ok, run_loadVar_cells w g ty cs d hc hu hd hi]
    exact hK _ _ h

/-- A whole array, written to the beginning of a block. -/
theorem run_storeVar_cells (w : World) (g : Nat) (t ty : TypeId) (cur cs : Array Value) (hg : w.heap[g]? = some (.cells cur t (0, 0))) (hl : cs.size ≤ cur.size)
    (hi : (P.info? ty).map (·.size) = some cs.size) (h1 : cs.all (·.oneCell') = true) :
    (storeVar ty ⟨g, 0, none⟩ (.agg cs)).run P w = .ok () (w.setRow g (cs.toList ++ cur.toList.drop cs.size).toArray) := by
  have hst := run_storeCells_at P g 0 t cs.toList 0 cur w hg (by simpa using hl) (by
    intro v hv
    rw [Array.all_eq_true] at h1
    obtain ⟨i, hi, e⟩ := List.getElem_of_mem hv
    rw [← e]
    simpa using h1 i (by simpa using hi))
  cases hq : P.info? ty with
  | none => simp [hq] at hi
  | some i =>
    have hs : i.size = cs.size := by simpa [hq] using hi
    simp only [Nat.zero_add, List.take_zero, List.nil_append, Array.length_toList] at hst
    simp [storeVar, sizeOf, typeInfo, hq, hs, Value.cells, Sem.run_bind, hst]

theorem wpList_store_cells {ops : Array Oper} {rest : List Oper} {o : Oper} {a : Act} {w : World} {Q : Exit → Act → World → Prop} (hgd : o.guard = none) (ty : TypeId) (x y : Operand) (ho : o.op = .store ty x y) (hdst : o.dst = none)
    (g : Nat) (hx : a.eval x = .pointer (some ⟨g, 0, none⟩)) (cs : Array Value) (hy : a.eval y = .agg cs) (t : TypeId) (cur : Array Value) (hg : w.heap[g]? = some (.cells cur t (0, 0))) (hl : cs.size ≤ cur.size)
    (hi : (P.info? ty).map (·.size) = some cs.size) (h1 : cs.all (·.oneCell') = true)
    (h : wpList P ops Q rest a (w.setRow g (cs.toList ++ cur.toList.drop cs.size).toArray)) : wpList P ops Q (o :: rest) a w :=
  wpList_plain hgd fun _ hK => by
    unfold Oper.wp execOp
    simp only [ho, hx, hy, Instr.storeAt, Instr.sureAddr, Sem.run_bind, Sem.run_pure, Result.andThen_ok, run_storeVar_cells w g t ty cur cs hg hl hi h1]
    have e : a.put o.dst undef = a := by rw [hdst]; rfl
    exact hK _ _ (by rw [e]; exact h)
end


theorem index_ws68 (z : Int) (j : Nat) (hj : j < 68) (w : World) : (Instr.index 94 (.agg (ws68 z)) (.int .i64 (j : Int))).run Try.prog w = .ok (.int .u64 (dZ z j)) w := by
  have h1 : (0 : Int) ≤ j ∧ (j : Int) < 68 := by omega
  have hp : (part 39 (ws68 z) j).run Try.prog w = .ok (.int .u64 (dZ z j)) w := by
    unfold part
    rw [Sem.run_bind, Try.isAgg39 w]
    simp only [Result.andThen_ok, Bool.false_eq_true, if_false]
    rw [ws68_get z j hj]
    rfl
  unfold Instr.index
  simp only [Sem.run_bind, asIntOf, Sem.run_pure, Result.andThen_ok, run_underlying Try.underlying94 w]
  have h2 : ((0 : Int) ≤ j ∧ (j : Int) < ((68 : Nat) : Int)) := h1
  simp only [if_pos h2]
  rw [Sem.run_bind, Try.sizeOf39 w]
  simp only [Result.andThen_ok, Int.toNat_natCast, Nat.mul_one]
  exact hp

theorem below_setRow {B : Nat} {a w : World} (h : Below B a w) {g : Nat} (hg : B ≤ g) (cs : Array Value) : Below B a (w.setRow g cs) :=
  ⟨h.os, h.tape, h.output, by rw [setRow_size]; exact h.size, fun k hk => by rw [setRow_other _ _ _ _ (by omega)]; exact h.block k hk⟩
theorem Only.setRow {b : Nat} {a w : World} (h : Only b a w) (cs : Array Value) : Only b a (w.setRow b cs) :=
  ⟨h.os, h.tape, h.output, by rw [setRow_size]; exact h.size, fun k hk hb => by rw [setRow_other _ _ _ _ hb]; exact h.block k hk hb⟩

/-- The words of an array of which the first j are Z's, the others z's. -/
def wdM (z Z : Int) (j m : Nat) : Value := if m < j then .int .u64 (dZ Z m) else .int .u64 (dZ z m)
theorem wdM_set (z Z : Int) (j m : Nat) : (if m = j then .int .u64 (dZ Z j) else wdM z Z j m) = wdM z Z (j + 1) m := by
  unfold wdM
  by_cases h1 : m = j
  · rw [if_pos h1, if_pos (by omega), h1]
  · rw [if_neg h1]
    by_cases h2 : m < j
    · rw [if_pos h2, if_pos (by omega)]
    · rw [if_neg h2, if_neg (by omega)]

theorem neg_step (z c : Int) (j : Nat) (c0 : 0 ≤ c) (c1 : c ≤ 1) (hc : 0 % PW j + c * PW j = (-z) % PW j + z % PW j) :
    ∃ c', 0 ≤ c' ∧ c' ≤ 1 ∧ 0 % PW (j + 1) + c' * PW (j + 1) = (-z) % PW (j + 1) + z % PW (j + 1) ∧ ∀ w, (callFunc 103 #[.int .u64 0, .int .u64 (dZ z j), .int .u64 c]).run Try.prog w = .ok (.value (.tuple #[.int .u64 (dZ (-z) j), .int .u64 c'])) w := by
  have hy := dZ_bd z j
  have e0 : (0 : Int) - z = -z := by omega
  obtain ⟨s1, s2⟩ := subZ_step 0 z c j c0 c1 (by rw [e0]; exact hc)
  rw [dZ_zero, e0] at s1 s2
  refine ⟨if 0 < dZ z j + c then 1 else 0, by split <;> omega, by split <;> omega, s2, fun w => ?_⟩
  rw [sub64_run 0 (dZ z j) c (Int.le_refl _) hy.1 hy.2 c0 c1 w, show ((0 : Int) + 18446744073709551616 - dZ z j - c) % 18446744073709551616 = dZ (-z) j from s1]

theorem row_heap {w : World} {b : Nat} {t : TypeId} {cs : Array Value} {n : Nat} {f : Nat → Value} (hn : cs.size = n) (h : w.rowIs b t n f) (e : ∀ i, i < n → cs[i]? = some (f i)) : w.heap[b]? = some (.cells cs t (0, 0)) := by
  obtain ⟨c, h1, h2, h3⟩ := h
  have : c = cs := by
    refine Array.ext_getElem? fun i => ?_
    by_cases hi : i < n
    · rw [h3 i hi, e i hi]
    · rw [Array.getElem?_eq_none (by omega), Array.getElem?_eq_none (by omega)]
  rw [h1, this]

set_option maxHeartbeats 1600000 in
set_option maxRecDepth 100000 in
theorem turned_any (z : Int) (w : World) :
    Calls Try.prog 68 #[.agg (ws68 z)] w fun e w' => e = .returned (.agg (ws68 (-z))) ∧ Below w.heap.size w w' := by
  have HI : Hd (∀ z, (Try.prog.info? 94).map (·.size) = some (ws68 z).size) := ⟨fun z => by rw [ws68_size]; exact info_ws68⟩
  go_enter Try.func68, Try.ntmps68
  go_wp2_with (refine wpList_load_cells rfl 94 (.tmp 1) rfl w.heap.size rfl (ws68 z) _ ?_ Try.underlying94 rfl (HI.out z) ?_)
  · intro j v hv
    rw [cell_of_row _ _ j (ws68 z) 94 (0, 0) (heap_alloc2_old w _ _)]; exact hv
  have HB : Hd (Below w.heap.size w ((w.alloc (.cells (ws68 z) 94)).alloc (.cells Try.zeroCells94 94))) := ⟨((Below.refl _ _).alloc (Nat.le_refl _) _).alloc (by simp) _⟩
  have HX : Hd (((w.alloc (.cells (ws68 z) 94)).alloc (.cells Try.zeroCells94 94)).rowIs w.heap.size 94 68 (wdM z (-z) 0)) := ⟨by
    have h1 := World.rowIs_alloc w (ws68 z) 94 (wdM z (-z) 0) (fun i hi => by rw [ws68_size] at hi; rw [ws68_get z i hi]; rfl)
    rw [ws68_size] at h1
    exact h1.alloc _⟩
  have HR : Hd (((w.alloc (.cells (ws68 z) 94)).alloc (.cells Try.zeroCells94 94)).heap[w.heap.size + 1]? = some (.cells Try.zeroCells94 94 (0, 0))) := ⟨heap_alloc2_new w _ _⟩
  generalize ((w.alloc (.cells (ws68 z) 94)).alloc (.cells Try.zeroCells94 94)) = w1 at *
  obtain ⟨bx, hbx⟩ : ∃ bx, w.heap.size = bx := ⟨_, rfl⟩
  rw [hbx] at HX HR HB ⊢
  have HBX := Hd.mk hbx
  clear hbx
  go_loopw [3, 7] (fun cv iv wr => ∃ (j : Nat) (c : Int), j ≤ 68 ∧ iv = .int .i64 j ∧ cv = .int .u64 c ∧ 0 ≤ c ∧ c ≤ 1 ∧ Hd (wr.rowIs bx 94 68 (wdM z (-z) j)) ∧ Hd (wr.heap[bx + 1]? = some (.cells Try.zeroCells94 94 (0, 0))) ∧ Hd (0 % PW j + c * PW j = (-z) % PW j + z % PW j) ∧ Hd (Below bx w wr)) (fun _ i _ => 68 - (intOf i).toNat)
  case atStart =>
    refine ⟨0, 0, by decide, rfl, rfl, Int.le_refl _, by decide, HX, HR, ⟨?_⟩, HB⟩
    rw [modZ_zero, modZ_zero, modZ_zero]; omega
  case round =>
    clear HX HR HB
    obtain ⟨j, c, hj, rfl, rfl, c0, c1, HX, HR, HC, HB⟩ := hrel
    by_cases hlt : j < 68
    · have hix := fun w => index_ws68 z j hlt w
      have frz := HX.out.frozen j
      have row : wr.cell? ⟨bx, j, none⟩ = some (wdM z (-z) j j) := HX.out.cell hlt
      obtain ⟨c', d0, d1, hcc, hop⟩ := neg_step z c j c0 c1 HC.out
      have HCC := Hd.mk hcc
      have hlt' : (j : Int) < 68 := by omega
      clear hcc
      go_wp2_with fail
      refine ⟨⟨j + 1, c', by omega, by go_num, rfl, d0, d1, ⟨?_⟩, ⟨?_⟩, HCC, ⟨?_⟩⟩, by simp [intOf]; omega⟩
      · exact (HX.out.set j _).congr fun m _ => wdM_set z (-z) j m
      · rw [heap_setCell_other _ _ _ _ (by show bx + 1 ≠ bx; omega)]; exact HR.out
      · exact HB.out.setCell (Nat.le_refl _) _
    · have hge : ¬ (j : Int) < 68 := by omega
      have hj68 : Hd (j = 68) := ⟨by omega⟩
      have hcell : Hd (∀ i v, (ws68 (-z))[i]? = some v → wr.cell? ⟨bx, i, none⟩ = some v) := ⟨fun i v hv => by
        have hi : i < 68 := by
          refine Decidable.byContradiction fun hc => ?_
          rw [Array.getElem?_eq_none (by rw [ws68_size]; omega)] at hv; cases hv
        rw [ws68_get _ i hi] at hv
        rw [HX.out.cell hi]
        unfold wdM
        rw [if_pos (by rw [hj68.out]; exact hi), hv]⟩
      have hz68 : Hd (Try.zeroCells94.size = 68) := ⟨by kernel_rfl⟩
      clear hlt
      go_wp2_with (first
        | (refine wpList_load_cells rfl 94 (.tmp 1) rfl bx rfl (ws68 (-z)) _ hcell.out Try.underlying94 rfl (HI.out (-z)) ?_)
        | (refine wpList_store_cells rfl 94 (.tmp 2) (.tmp 20) rfl rfl (bx + 1) rfl (ws68 (-z)) rfl 94 _ HR.out ?c1 (HI.out (-z)) (ws68_one _) ?_))
      case c1 => rw [ws68_size]; exact Nat.le_refl _
      have hnil : (ws68 (-z)).toList ++ List.drop (ws68 (-z)).size Try.zeroCells94.toList = (ws68 (-z)).toList := by
        rw [List.drop_eq_nil_of_le (by rw [ws68_size, Array.length_toList, hz68.out]; exact Nat.le_refl _), List.append_nil]
      rw [hnil, Array.toArray_toList]
      refine bodyPost_ret (v := .agg (ws68 (-z))) ?_ rfl ⟨rfl, ?_⟩
      · exact results_cell_row Try.results68 _ _ (bx + 1) 94 _ (0, 0) _ rfl (setRow_heap _ _ _ _ _ _ HR.out) Try.underlying94 rfl (HI.out (-z))
      · rw [HBX.out]; exact below_setRow (g := bx + 1) HB.out (by omega) _

theorem ws68_cell {z : Int} {i : Nat} {v : Value} (h : (ws68 z)[i]? = some v) : i < 68 ∧ v = .int .u64 (dZ z i) := by
  have hi : i < 68 := by
    refine Decidable.byContradiction fun hc => ?_
    rw [Array.getElem?_eq_none (by rw [ws68_size]; omega)] at h; cases h
  rw [ws68_get _ i hi] at h
  injection h with h
  exact ⟨hi, h.symm⟩
theorem AccIs.words {w : World} {b : Nat} {z : Int} {up dn : Bool} (h : AccIs w b z up dn) (j : Nat) (v : Value) (hv : (ws68 z)[j]? = some v) : w.cell? ⟨b, j, none⟩ = some v := by
  obtain ⟨hj, rfl⟩ := ws68_cell hv
  exact h.word j hj
theorem AccIs.heap {w : World} {b : Nat} {z : Int} {up dn : Bool} (h : AccIs w b z up dn) : ∃ cur : Array Value, w.heap[b]? = some (.cells cur 96 (0, 0)) ∧ cur.size = 70 ∧ ∀ i, i < 70 → cur[i]? = some (accF z up dn i) := h
theorem AccIs.setWords {w : World} {b : Nat} {z : Int} {up dn : Bool} {cur : Array Value} (hg : w.heap[b]? = some (.cells cur 96 (0, 0))) (hs : cur.size = 70) (hc : ∀ i, i < 70 → cur[i]? = some (accF z up dn i)) (y : Int) :
    AccIs (w.setRow b ((ws68 y).toList ++ cur.toList.drop (ws68 y).size).toArray) b y up dn := by
  refine ⟨_, setRow_heap _ _ _ _ _ _ hg, ?_, fun i hi => ?_⟩
  · simp [ws68_size, hs]
  · rw [List.getElem?_toArray, List.getElem?_append, Array.length_toList, ws68_size]
    by_cases h : i < 68
    · rw [if_pos h, Array.getElem?_toList, ws68_get y i h]; unfold accF; rw [if_pos h]
    · rw [if_neg h, List.getElem?_drop, show 68 + (i - 68) = i by omega, Array.getElem?_toList, hc i hi]
      unfold accF; rw [if_neg h, if_neg h]

set_option maxHeartbeats 1600000 in
set_option maxRecDepth 100000 in
theorem turn_any (b : Nat) (z : Int) (up dn : Bool) (w : World) (h : AccIs w b z up dn) :
    Calls Try.prog 17 #[.pointer (some ⟨b, 0, none⟩)] w fun e w' => e = .returned (.tuple #[]) ∧ AccIs w' b (-z) dn up ∧ Only b w w' := by
  have HI : Hd (∀ z, (Try.prog.info? 94).map (·.size) = some (ws68 z).size) := ⟨fun z => by rw [ws68_size]; exact info_ws68⟩
  have HW := Hd.mk (AccIs.words h)
  have HT := Hd.mk (turned_any z)
  have H := Hd.mk h
  clear h
  go_enter Try.func17, Try.ntmps17
  go_wp2_with (refine wpList_load_cells rfl 94 (.tmp 5) rfl b rfl (ws68 z) _ HW.out Try.underlying94 rfl (HI.out z) ?_)
  refine (HT.out _).mono ?_; rintro e w1 ⟨rfl, hb⟩
  have HB := Hd.mk hb
  have H1 := Hd.mk (H.out.below hb)
  clear hb
  obtain ⟨cur, hg, hs, hc⟩ := H1.out.heap
  have HG := Hd.mk hg
  have HS := Hd.mk hs
  have HC := Hd.mk hc
  clear hg hs hc
  go_wp2_with (refine wpList_store_cells rfl 94 (.tmp 9) (.tmp 7) rfl rfl b rfl (ws68 (-z)) rfl 96 cur HG.out ?_ (HI.out (-z)) (ws68_one _) ?_)
  · rw [ws68_size, HS.out]; decide
  have H2 := Hd.mk (AccIs.setWords HG.out HS.out HC.out (-z))
  have HO := Hd.mk (Only.setRow (Only.of_below HB.out) (b := b) ((ws68 (-z)).toList ++ cur.toList.drop (ws68 (-z)).size).toArray)
  generalize w1.setRow b ((ws68 (-z)).toList ++ cur.toList.drop (ws68 (-z)).size).toArray = w2 at *
  have c1 := H2.out.up
  have c2 := H2.out.dn
  have f1 := H2.out.frozen 68
  have f2 := H2.out.frozen 69
  clear HG HS HC H1 HB H HW HT
  go_region
  all_goals
    go_wp2_with fail
    go_end0
    exact ⟨rfl, by first | exact (H2.out.setUp _).setDn _ | exact (H2.out.setDn _).setUp _, by first | exact ((HO.out.setCell 68 _).setCell 69 _).drewN 1 | exact ((HO.out.setCell 69 _).setCell 68 _).drewN 1⟩

end Go.Proofs.Yteikihidblcljaa

/- The walks of Acc's New, Copy, Merge. -/
namespace Go.Proofs.Yteikihidblcljaa
open Go.RowKit
set_option linter.unusedSimpArgs false
set_option linter.unusedVariables false

/-- It returns a new accumulator. -/
def NewAcc (z : Int) (up dn : Bool) (w : World) (e : Ending) (w' : World) : Prop := ∃ b, e = .returned (.pointer (some ⟨b, 0, none⟩)) ∧ w.heap.size ≤ b ∧ AccIs w' b z up dn ∧ Below w.heap.size w w'

theorem zero_acc (w : World) : AccIs (w.alloc (.cells Try.zeroCells96 96)) w.heap.size 0 false false := by
  have hs : Try.zeroCells96.size = 70 := by kernel_rfl
  have hc : Try.zeroCells96 = ((List.range 70).map (fun i => if i < 68 then Value.int .u64 0 else .bool false)).toArray := by kernel_rfl
  have h := World.rowIs_alloc w Try.zeroCells96 96 (accF 0 false false) (fun i hi => by
    rw [hs] at hi
    rw [hc, List.getElem?_toArray, List.getElem?_map, List.getElem?_range hi]
    show some _ = _
    congr 1
    dsimp only
    unfold accF
    by_cases h1 : i < 68
    · rw [if_pos h1, if_pos h1, dZ_zero]
    · rw [if_neg h1, if_neg h1]; split <;> rfl)
  rw [hs] at h
  exact h

set_option maxHeartbeats 1600000 in
set_option maxRecDepth 100000 in
theorem new_any (w : World) : Calls Try.prog 7 #[] w (NewAcc 0 false false w) := by
  go_enter Try.func7, Try.ntmps7
  go_wp2_with fail
  go_ret
  exact ⟨w.heap.size, rfl, Nat.le_refl _, zero_acc w, (Below.refl _ _).alloc (Nat.le_refl _) _⟩

/-- All of an accumulator, by value. -/
def acV (z : Int) (up dn : Bool) : Array Value := Array.ofFn (n := 70) fun i => accF z up dn i
theorem acV_size (z : Int) (up dn : Bool) : (acV z up dn).size = 70 := by unfold acV; rw [Array.size_ofFn]
theorem acV_get (z : Int) (up dn : Bool) (i : Nat) (h : i < 70) : (acV z up dn)[i]? = some (accF z up dn i) := by
  unfold acV; rw [Array.getElem?_ofFn, dif_pos h]
theorem accF_one (z : Int) (up dn : Bool) (i : Nat) : (accF z up dn i).oneCell' = true := by
  unfold accF; split
  · rfl
  · split <;> rfl
theorem acV_one (z : Int) (up dn : Bool) : (acV z up dn).all (·.oneCell') = true := by
  unfold acV
  rw [Array.all_eq_true]
  intro i hi
  rw [Array.getElem_ofFn]; exact accF_one _ _ _ _
attribute [irreducible] acV
theorem AccIs.all {w : World} {b : Nat} {z : Int} {up dn : Bool} (h : AccIs w b z up dn) (j : Nat) (v : Value) (hv : (acV z up dn)[j]? = some v) : w.cell? ⟨b, j, none⟩ = some v := by
  have hi : j < 70 := by
    refine Decidable.byContradiction fun hc => ?_
    rw [Array.getElem?_eq_none (by rw [acV_size]; omega)] at hv; cases hv
  rw [acV_get _ _ _ j hi] at hv
  rw [World.rowIs.cell h hi, hv]
theorem AccIs.stored {w : World} {b : Nat} {cur : Array Value} (hg : w.heap[b]? = some (.cells cur 96 (0, 0))) (hs : cur.size = 70) (z : Int) (up dn : Bool) :
    AccIs (w.setRow b ((acV z up dn).toList ++ cur.toList.drop (acV z up dn).size).toArray) b z up dn := by
  refine ⟨_, setRow_heap _ _ _ _ _ _ hg, ?_, fun i hi => ?_⟩
  · simp [acV_size, hs]
  · rw [List.getElem?_toArray, List.getElem?_append, Array.length_toList, acV_size, if_pos hi, Array.getElem?_toList, acV_get _ _ _ i hi]

set_option maxHeartbeats 1600000 in
set_option maxRecDepth 100000 in
theorem copy_any (b : Nat) (z : Int) (up dn : Bool) (w : World) (h : AccIs w b z up dn) :
    Calls Try.prog 19 #[.pointer (some ⟨b, 0, none⟩)] w (NewAcc z up dn w) := by
  have HI : Hd ((Try.prog.info? 96).map (·.size) = some (acV z up dn).size) := ⟨by rw [acV_size]; exact info_acc⟩
  have HW := Hd.mk (AccIs.all h)
  have hs : Hd (Try.zeroCells96.size = 70) := ⟨by kernel_rfl⟩
  clear h
  go_enter Try.func19, Try.ntmps19
  go_wp2_with (first
    | (refine wpList_load_cells rfl 96 (.tmp 5) rfl b rfl (acV z up dn) _ HW.out Try.underlying96 rfl HI.out ?_)
    | (refine wpList_store_cells rfl 96 (.tmp 3) (.tmp 6) rfl rfl w.heap.size rfl (acV z up dn) rfl 96 Try.zeroCells96 ?c1 ?c2 HI.out (acV_one _ _ _) ?_))
  case c1 => exact heap_alloc_new w _
  case c2 => rw [acV_size]; exact Nat.le_refl _
  go_ret
  exact ⟨w.heap.size, rfl, Nat.le_refl _, AccIs.stored (heap_alloc_new w _) hs.out z up dn, below_setRow ((Below.refl _ _).alloc (Nat.le_refl _) _) (Nat.le_refl _) _⟩

theorem merge_step (z y c : Int) (j : Nat) (c0 : 0 ≤ c) (c1 : c ≤ 1) (hc : c * PW j + (z + y) % PW j = z % PW j + y % PW j) :
    ∃ c', 0 ≤ c' ∧ c' ≤ 1 ∧ c' * PW (j + 1) + (z + y) % PW (j + 1) = z % PW (j + 1) + y % PW (j + 1) ∧ ∀ w, (callFunc 67 #[.int .u64 (dZ z j), .int .u64 (dZ y j), .int .u64 c]).run Try.prog w = .ok (.value (.tuple #[.int .u64 (dZ (z + y) j), .int .u64 c'])) w := by
  have hd := dZ_bd z j
  have hy := dZ_bd y j
  obtain ⟨s1, s2⟩ := addZ_step z y c j hc
  refine ⟨(dZ z j + dZ y j + c) / 18446744073709551616, by omega, by omega, s2, fun w => ?_⟩
  rw [add64_run (dZ z j) (dZ y j) c hd.1 hy.1 c0 c1 w, show (dZ z j + dZ y j + c) % 18446744073709551616 = dZ (z + y) j from s1]

set_option maxHeartbeats 1600000 in
set_option maxRecDepth 100000 in
theorem merge_none (b : Nat) (w : World) :
    Calls Try.prog 15 #[.pointer (some ⟨b, 0, none⟩), .pointer none] w fun e w' => e = .returned (.tuple #[]) ∧ w = w' := by
  go_enter Try.func15, Try.ntmps15
  go_wp2_with fail
  first | go_end0 | (refine bodyPost_ret (results_none rfl _ _ _) rfl ?_)
  exact ⟨rfl, rfl⟩

set_option maxHeartbeats 3200000 in
set_option maxRecDepth 100000 in
theorem merge_any (b : Nat) (z : Int) (up dn : Bool) (b' : Nat) (z' : Int) (up' dn' : Bool) (w : World) (h : AccIs w b z up dn) (h' : AccIs w b' z' up' dn') :
    Calls Try.prog 15 #[.pointer (some ⟨b, 0, none⟩), .pointer (some ⟨b', 0, none⟩)] w fun e w' => e = .returned (.tuple #[]) ∧ AccIs w' b (z + z') (up || up') (dn || dn') ∧ Only b w w' := by
  have HI : Hd (∀ z, (Try.prog.info? 94).map (·.size) = some (ws68 z).size) := ⟨fun z => by rw [ws68_size]; exact info_ws68⟩
  have HW := Hd.mk (AccIs.words h')
  have HU : Hd (∀ wr, Only b w wr → wr.rowIs b 96 70 (accM z (z + z') 68 up dn) → wr.cell? ⟨b', 68, none⟩ = some (.bool up') ∧ wr.cell? ⟨b', 69, none⟩ = some (.bool dn')) := ⟨fun wr ho hr => by
    by_cases e : b' = b
    · subst e
      have u1 := h.up
      have u2 := h.dn
      rw [h'.up] at u1
      rw [h'.dn] at u2
      have a1 := hr.cell (i := 68) (by omega)
      have a2 := hr.cell (i := 69) (by omega)
      rw [a1, a2, u1, u2]
      unfold accM accF
      exact ⟨rfl, rfl⟩
    · have hk := h'.only ho e
      exact ⟨hk.up, hk.dn⟩⟩
  have H0 : Hd (w.rowIs b 96 70 (accM z (z + z') 0 up dn)) := ⟨h⟩
  have HO : Hd (Only b w w) := ⟨Only.refl b w⟩
  clear h h'
  go_enter Try.func15, Try.ntmps15
  go_wp2_with (refine wpList_load_cells rfl 94 (.tmp 11) rfl b' rfl (ws68 z') _ HW.out Try.underlying94 rfl (HI.out z') ?_)
  obtain ⟨w1, hw1⟩ : ∃ w1, w1 = w := ⟨_, rfl⟩
  go_loopw [4, 13] (fun cv iv wr => ∃ (j : Nat) (c : Int), j ≤ 68 ∧ iv = .int .i64 j ∧ cv = .int .u64 c ∧ 0 ≤ c ∧ c ≤ 1 ∧ Hd (wr.rowIs b 96 70 (accM z (z + z') j up dn)) ∧ Hd (c * PW j + (z + z') % PW j = z % PW j + z' % PW j) ∧ Hd (Only b w wr)) (fun _ i _ => 68 - (intOf i).toNat)
  case atStart =>
    refine ⟨0, 0, by decide, rfl, rfl, Int.le_refl _, by decide, H0, ⟨?_⟩, HO⟩
    rw [modZ_zero, modZ_zero, modZ_zero]; omega
  case round =>
    clear H0 HO
    obtain ⟨j, c, hj, rfl, rfl, c0, c1, HR, HC, HB⟩ := hrel
    by_cases hlt : j < 68
    · have hix := fun w => index_ws68 z' j hlt w
      have row : wr.cell? ⟨b, j, none⟩ = some (.int .u64 (dZ z j)) := by
        have := HR.out.cell (i := j) (by omega)
        unfold accM accF at this
        rwa [if_neg (by omega), if_pos hlt] at this
      have frz := HR.out.frozen j
      obtain ⟨c', d0, d1, hcc, hop⟩ := merge_step z z' c j c0 c1 HC.out
      have HCC := Hd.mk hcc
      clear hcc
      have hlt' : (j : Int) < 68 := by omega
      go_wp2_with fail
      go_region
      go_wp2_with fail
      refine ⟨⟨j + 1, c', by omega, by go_num, rfl, d0, d1, ⟨?_⟩, HCC, ⟨?_⟩⟩, by simp [intOf]; omega⟩
      · exact (HR.out.set j _).drew.congr fun m _ => accM_set z (z + z') j up dn m
      · exact (HB.out.setCell j _).drewN 1
    · have hge : ¬ (j : Int) < 68 := by omega
      have hj68 : j = 68 := by omega
      rw [hj68] at HR
      have H2 : Hd (AccIs wr b (z + z') up dn) := ⟨HR.out.congr fun m _ => accM_end z (z + z') up dn m⟩
      obtain ⟨u1, u2⟩ := HU.out wr HB.out HR.out
      have c1 := H2.out.up
      have c2 := H2.out.dn
      have f1 := H2.out.frozen 68
      have f2 := H2.out.frozen 69
      clear hj68 hlt HU HW HC HR
      cases up <;> cases dn
      all_goals
        go_wp2_with fail
        go_region
      all_goals
        go_wp2_with fail
        go_end0
        exact ⟨rfl, by first | exact (H2.out.setUp _).setDn _ | exact (H2.out.setDn _).setUp _, by first | exact ((HB.out.setCell 68 _).setCell 69 _).drewN 1 | exact ((HB.out.setCell 69 _).setCell 68 _).drewN 1⟩

end Go.Proofs.Yteikihidblcljaa

/- Arrays of 68 words, held against each other; the walks of Acc's below, Sign, Same. -/
namespace Go.Proofs.Yteikihidblcljaa
open Go.RowKit
set_option linter.unusedSimpArgs false
set_option linter.unusedVariables false

theorem part_ws68 (z : Int) (j : Nat) (hj : j < 68) (w : World) : (part 39 (ws68 z) (j * 1)).run Try.prog w = .ok (.int .u64 (dZ z j)) w := by
  unfold part
  rw [Sem.run_bind, Try.isAgg39 w]
  simp only [Result.andThen_ok, Bool.false_eq_true, if_false, Nat.mul_one]
  rw [ws68_get z j hj]
  rfl

theorem eqItems_ws68 (d : Nat) (z y : Int) (w : World) : ∀ is : List Nat, (∀ i ∈ is, i < 68) →
    (Op.eqItems (d + 1) 39 1 (ws68 z) (ws68 y) is).run Try.prog w = .ok (is.all fun i => dZ z i == dZ y i) w
  | [], _ => rfl
  | i :: is, h => by
    have ih := eqItems_ws68 d z y w is (fun j hj => h j (List.mem_cons_of_mem _ hj))
    have hi := h i (List.mem_cons_self ..)
    unfold Op.eqItems
    rw [Sem.run_bind, part_ws68 z i hi w]
    simp only [Result.andThen_ok]
    rw [Sem.run_bind, part_ws68 y i hi w]
    simp only [Result.andThen_ok]
    rw [Sem.run_bind, run_equalIn_int w d 39 .u64 .u64 _ _ Try.underlying39]
    simp only [Result.andThen_ok, List.all_cons]
    cases hd : (dZ z i == dZ y i)
    · rfl
    · simp only [Bool.not_true, Bool.false_eq_true, if_false, Bool.true_and]
      exact ih

/-- A sum that an accumulator can hold. -/
def AccB (z : Int) : Prop := -(9223372036854775808 * PW 67) ≤ z ∧ z < 9223372036854775808 * PW 67

theorem mod_words (z y : Int) : ∀ n, (∀ i, i < n → dZ z i = dZ y i) → z % PW n = y % PW n
  | 0, _ => by rw [modZ_zero, modZ_zero]
  | n + 1, h => by rw [modZ_succ, modZ_succ, mod_words z y n (fun i hi => h i (by omega)), h n (by omega)]

theorem words_eq (z y : Int) (hz : AccB z) (hy : AccB y) : ((List.range 68).all fun i => dZ z i == dZ y i) = decide (z = y) := by
  by_cases e : z = y
  · subst e
    rw [decide_eq_true rfl, List.all_eq_true]
    intro i _; exact beq_self_eq_true _
  · rw [decide_eq_false e, List.all_eq_false]
    refine Decidable.byContradiction fun hc => e ?_
    have h : ∀ i, i < 68 → dZ z i = dZ y i := fun i hi => by
      refine Decidable.byContradiction fun hn => hc ⟨i, List.mem_range.2 hi, ?_⟩
      simpa using hn
    have hm := mod_words z y 68 h
    obtain ⟨a, b⟩ := hz
    obtain ⟨c, d⟩ := hy
    have hs : PW 68 = PW 67 * 18446744073709551616 := PW_succ 67
    have hp := PW_pos 67
    have hd : (z - y) % PW 68 = 0 := Int.emod_eq_emod_iff_emod_sub_eq_zero.1 hm
    generalize PW 67 = p at *
    have h3 := Int.mul_ediv_add_emod (z - y) (PW 68)
    rw [hd, hs] at h3
    generalize (z - y) / (p * 18446744073709551616) = q at *
    have hq : q = 0 := by
      rcases (by omega : q ≤ -1 ∨ q = 0 ∨ 1 ≤ q) with g | g | g
      · have := Int.mul_le_mul_of_nonneg_left g (show 0 ≤ p * 18446744073709551616 by omega); omega
      · exact g
      · have := Int.mul_le_mul_of_nonneg_left g (show 0 ≤ p * 18446744073709551616 by omega); omega
    rw [hq] at h3; omega

theorem equal_ws68 (z y : Int) (hz : AccB z) (hy : AccB y) (w : World) : (Op.equalIn 10000 94 (.agg (ws68 z)) (.agg (ws68 y))).run Try.prog w = .ok (decide (z = y)) w := by
  obtain ⟨i, hi, hs⟩ : ∃ i, Try.prog.info? 39 = some i ∧ Try.prog.cellsOf 39 = 1 := by
    have h : (Try.prog.info? 39).map (·.size) = some 1 := by kernel_rfl
    cases hq : Try.prog.info? 39 with
    | none => rw [hq] at h; cases h
    | some i => exact ⟨i, rfl, by unfold Program.cellsOf; rw [h]; rfl⟩
  have h := run_equalIn_array w 9999 (ws68 z) (ws68 y) Try.underlying94 hi
  rw [h, hs, eqItems_ws68 9998 z y w _ (fun i hi => List.mem_range.1 hi), words_eq z y hz hy]

theorem top_word (z : Int) (h : AccB z) : (dZ z 67 / 9223372036854775808 == 1) = decide (z < 0) := by
  obtain ⟨a, b⟩ := h
  have hp := PW_pos 67
  have e : dZ z 67 = z / PW 67 % 18446744073709551616 := by unfold dZ; rfl
  have h3 := Int.mul_ediv_add_emod z (PW 67)
  have h0 := Int.emod_nonneg z (Int.ne_of_gt hp)
  have h1 := Int.emod_lt_of_pos z hp
  rw [e]
  generalize PW 67 = p at *
  generalize z % p = r at *
  generalize z / p = q at *
  have q1 : -9223372036854775808 ≤ q := by
    refine Decidable.byContradiction fun hc => ?_
    have := Int.mul_le_mul_of_nonneg_left (show q ≤ -9223372036854775809 by omega) (Int.le_of_lt hp)
    omega
  have q2 : q < 9223372036854775808 := by
    refine Decidable.byContradiction fun hc => ?_
    have := Int.mul_le_mul_of_nonneg_left (show 9223372036854775808 ≤ q by omega) (Int.le_of_lt hp)
    omega
  by_cases hz : z < 0
  · have q3 : q < 0 := by
      refine Decidable.byContradiction fun hc => ?_
      have := Int.mul_le_mul_of_nonneg_left (show 0 ≤ q by omega) (Int.le_of_lt hp)
      omega
    rw [decide_eq_true hz, beq_iff_eq]; omega
  · have q3 : 0 ≤ q := by
      refine Decidable.byContradiction fun hc => ?_
      have := Int.mul_le_mul_of_nonneg_left (show q ≤ -1 by omega) (Int.le_of_lt hp)
      omega
    rw [decide_eq_false hz, beq_eq_false_iff_ne]; omega

set_option maxHeartbeats 800000 in
theorem below_any (b : Nat) (z : Int) (up dn : Bool) (w : World) (h : AccIs w b z up dn) (hb : AccB z) :
    Calls Try.prog 72 #[.pointer (some ⟨b, 0, none⟩)] w fun e w' => e = .returned (.bool (decide (z < 0))) ∧ w = w' := by
  have HT := Hd.mk (top_word z hb)
  have c := h.word 67 (by decide)
  clear h hb
  go_enter Try.func72, Try.ntmps72
  go_wp2_with fail
  go_ret
  exact ⟨by rw [← HT.out]; rfl, rfl⟩

/-- A sum's sign. -/
def asgn (z : Int) (up dn : Bool) : Int := if up && dn then 0 else if up then 1 else if dn then -1 else if z < 0 then -1 else if z = 0 then 0 else 1

theorem zero_ws68 : Try.zeroCells94 = ws68 0 := by
  have hc : Try.zeroCells94 = ((List.range 68).map (fun _ => Value.int .u64 0)).toArray := by kernel_rfl
  have hs : Try.zeroCells94.size = 68 := by kernel_rfl
  refine ws68_of 0 _ hs fun i hi => ?_
  rw [hc, List.getElem?_toArray, List.getElem?_map, List.getElem?_range hi, dZ_zero]; rfl

theorem AccB_zero : AccB 0 := by
  have := PW_pos 67
  unfold AccB; omega

set_option maxHeartbeats 1600000 in
set_option maxRecDepth 100000 in
theorem sign_any (b : Nat) (z : Int) (up dn : Bool) (w : World) (h : AccIs w b z up dn) (hb : AccB z) :
    Calls Try.prog 23 #[.pointer (some ⟨b, 0, none⟩)] w fun e w' => e = .returned (.int .i64 (asgn z up dn)) ∧ w = w' := by
  have HI : Hd (∀ z, (Try.prog.info? 94).map (·.size) = some (ws68 z).size) := ⟨fun z => by rw [ws68_size]; exact info_ws68⟩
  have HW := Hd.mk (AccIs.words h)
  have HE := Hd.mk (equal_ws68 z 0 hb AccB_zero)
  rw [← zero_ws68] at HE
  have HL := Hd.mk (below_any b z up dn w h hb)
  have c1 := h.up
  have c2 := h.dn
  clear h hb
  cases up
  · cases dn
    · by_cases h0 : z < 0
      · have hv : Hd (asgn z false false = -1) := ⟨by unfold asgn; rw [if_neg (by decide), if_neg (by decide), if_neg (by decide), if_pos h0]⟩
        rw [decide_eq_true h0] at HL
        rw [hv.out]
        clear h0 hv
        go_enter Try.func23, Try.ntmps23
        go_wp2_with (go_at_call 72; refine HL.out.mono ?_; rintro e w' ⟨rfl, rfl⟩)
        first | go_ret | skip
        exact ⟨rfl, rfl⟩
      · have heq := HE.out
        rw [decide_eq_false h0] at HL
        by_cases h1 : z = 0
        · have hv : Hd (asgn z false false = 0) := ⟨by unfold asgn; rw [if_neg (by decide), if_neg (by decide), if_neg (by decide), if_neg h0, if_pos h1]⟩
          simp only [decide_eq_true h1] at heq
          rw [hv.out]
          clear h0 h1 hv HE
          go_enter Try.func23, Try.ntmps23
          go_wp2_with (first | (go_at_call 72; refine HL.out.mono ?_; rintro e w' ⟨rfl, rfl⟩) | (refine wpList_load_cells rfl 94 (.tmp 31) rfl b rfl (ws68 z) _ HW.out Try.underlying94 rfl (HI.out z) ?_))
          go_ret
          exact ⟨rfl, rfl⟩
        · have hv : Hd (asgn z false false = 1) := ⟨by unfold asgn; rw [if_neg (by decide), if_neg (by decide), if_neg (by decide), if_neg h0, if_neg h1]⟩
          simp only [decide_eq_false h1] at heq
          rw [hv.out]
          clear h0 h1 hv HE
          go_enter Try.func23, Try.ntmps23
          go_wp2_with (first | (go_at_call 72; refine HL.out.mono ?_; rintro e w' ⟨rfl, rfl⟩) | (refine wpList_load_cells rfl 94 (.tmp 31) rfl b rfl (ws68 z) _ HW.out Try.underlying94 rfl (HI.out z) ?_))
          go_ret
          exact ⟨rfl, rfl⟩
    · go_enter Try.func23, Try.ntmps23
      go_wp2_with fail
      go_ret
      exact ⟨rfl, rfl⟩
  · cases dn
    · go_enter Try.func23, Try.ntmps23
      go_wp2_with fail
      go_ret
      exact ⟨rfl, rfl⟩
    · go_enter Try.func23, Try.ntmps23
      go_wp2_with fail
      go_ret
      exact ⟨rfl, rfl⟩

end Go.Proofs.Yteikihidblcljaa

/- The walk of Acc's Same. -/
namespace Go.Proofs.Yteikihidblcljaa
open Go.RowKit
set_option linter.unusedSimpArgs false
set_option linter.unusedVariables false

section
variable {P : Program} {C : World → Prop} {a : Act} {o : Oper}
theorem quiet_load_cells {K : Act → Prop} (ty : TypeId) (x : Operand) (ho : o.op = .load ty x) (g : Nat) (hx : a.eval x = .pointer (some ⟨g, 0, none⟩)) (cs : Array Value) (d : TypeDesc) (hc : ∀ w, C w → ∀ j v, cs[j]? = some v → w.cell? ⟨g, j, none⟩ = some v)
    (hu : P.underlying ty = some d) (hd : (match d with | .struct _ | .array _ _ => true | _ => false) = true) (hi : (P.info? ty).map (·.size) = some cs.size) (hk : K (a.put o.dst (.agg cs))) : o.quiet P a C K :=
  ⟨_, fun w hw => by
    unfold Oper.quietAt execOp
    simp only [ho, hx, Instr.loadAt, Instr.sureAddr, Sem.run_bind, Sem.run_pure, Result.andThen_ok, run_loadVar_cells w g ty cs d (hc w hw) hu hd hi]
    exact ⟨rfl, rfl⟩, hk⟩
end

/-- Have two the same state? -/
def asame (z : Int) (up dn : Bool) (z' : Int) (up' dn' : Bool) : Bool := (up == up') && (dn == dn') && (up || dn || decide (z = z'))

set_option maxHeartbeats 1600000 in
set_option maxRecDepth 100000 in
theorem same_none (b : Nat) (w : World) : Calls Try.prog 25 #[.pointer (some ⟨b, 0, none⟩), .pointer none] w fun e w' => e = .returned (.bool false) ∧ ∃ n, w' = w.drewN n := by
  go_enter Try.func25, Try.ntmps25
  go_wp2_with fail
  go_quiet (fail)
  go_wp2_with fail
  go_ret
  exact ⟨rfl, _, rfl⟩

set_option maxHeartbeats 1600000 in
set_option maxRecDepth 100000 in
theorem same_f (b : Nat) (z : Int) (b' : Nat) (z' : Int) (w : World) (h : AccIs w b z false false) (h' : AccIs w b' z' false false) (hb : AccB z) (hb' : AccB z') :
    Calls Try.prog 25 #[.pointer (some ⟨b, 0, none⟩), .pointer (some ⟨b', 0, none⟩)] w fun e w' => e = .returned (.bool (decide (z = z'))) ∧ ∃ n, w' = w.drewN n := by
  have HI : Hd (∀ z, (Try.prog.info? 94).map (·.size) = some (ws68 z).size) := ⟨fun z => by rw [ws68_size]; exact info_ws68⟩
  have heq := equal_ws68 z z' hb hb'
  have c1 := h.up
  have c2 := h.dn
  have c3 := h'.up
  have c4 := h'.dn
  have L1 : Hd (∀ m w', (∃ n, w' = (w.drewN m).drewN n) → ∀ j v, (ws68 z)[j]? = some v → w'.cell? ⟨b, j, none⟩ = some v) := ⟨fun m w' hw => by
    obtain ⟨n, rfl⟩ := hw
    exact AccIs.words h⟩
  have L2 : Hd (∀ m w', (∃ n, w' = (w.drewN m).drewN n) → ∀ j v, (ws68 z')[j]? = some v → w'.cell? ⟨b', j, none⟩ = some v) := ⟨fun m w' hw => by
    obtain ⟨n, rfl⟩ := hw
    exact AccIs.words h'⟩
  clear h h' hb hb'
  generalize decide (z = z') = r at *
  go_enter Try.func25, Try.ntmps25
  go_wp2_with fail
  go_quiet (fail)
  go_wp2_with fail
  refine wp_region_quiet_lit (by kernel_rfl) (by kernel_rfl) ?_
  repeat (quiet_step (fail))
  refine BigFrame.wpQuiet_want (by rfl) (fun K hK => ?_)
  refine quiet_load_cells 94 (.tmp 42) rfl b rfl (ws68 z) _ (L1.out nq) Try.underlying94 rfl (HI.out z) ?_
  refine hK _ ?_
  clear hK K
  repeat (quiet_step (fail))
  refine BigFrame.wpQuiet_want (by rfl) (fun K hK => ?_)
  refine quiet_load_cells 94 (.tmp 46) rfl b' rfl (ws68 z') _ (L2.out nq) Try.underlying94 rfl (HI.out z') ?_
  refine hK _ ?_
  clear hK K
  repeat (quiet_step (fail))
  refine wpQuiet_nil ?_
  intro _ hw'
  obtain ⟨nq2, hw''⟩ := hw'
  subst hw''
  go_wp2_with fail
  go_ret
  exact ⟨rfl, nq + nq2, by rw [World.drewN_drewN]⟩

set_option maxHeartbeats 3200000 in
set_option maxRecDepth 100000 in
theorem same_any (b : Nat) (z : Int) (up dn : Bool) (b' : Nat) (z' : Int) (up' dn' : Bool) (w : World) (h : AccIs w b z up dn) (h' : AccIs w b' z' up' dn') (hb : AccB z) (hb' : AccB z') :
    Calls Try.prog 25 #[.pointer (some ⟨b, 0, none⟩), .pointer (some ⟨b', 0, none⟩)] w fun e w' => e = .returned (.bool (asame z up dn z' up' dn')) ∧ ∃ n, w' = w.drewN n := by
  by_cases hf : up = false ∧ dn = false ∧ up' = false ∧ dn' = false
  · obtain ⟨rfl, rfl, rfl, rfl⟩ := hf
    have := same_f b z b' z' w h h' hb hb'
    unfold asame
    exact this
  have c1 := h.up
  have c2 := h.dn
  have c3 := h'.up
  have c4 := h'.dn
  clear h h' hb hb'
  unfold asame
  generalize decide (z = z') = r
  cases up <;> cases up' <;> cases dn <;> cases dn'
  · exact absurd ⟨rfl, rfl, rfl, rfl⟩ hf
  all_goals
    clear hf
    go_enter Try.func25, Try.ntmps25
    go_wp2_with fail
    go_quiet (fail)
    go_wp2_with fail
    first
      | (go_ret; exact ⟨rfl, nq, rfl⟩)
      | (rename Nat => n1; go_quiet (fail); go_wp2_with fail; go_ret; exact ⟨rfl, n1 + nq, by rw [World.drewN_drewN]⟩)

end Go.Proofs.Yteikihidblcljaa
