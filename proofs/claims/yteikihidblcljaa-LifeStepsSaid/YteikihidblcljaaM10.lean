/- Put together out of several texts: Kj Kk Kl Km Kn Ko Kp Kq Kr Ks Kt Ku. -/
import Derived.Test.YteikihidblcljaaM9
import Derived.Test.YteikihidblcljaaM6
import Derived.Test.YteikihidblcljaaM5
import Derived.Test.YteikihidblcljaaM4
import Derived.Test.YteikihidblcljaaM7
import Derived.Test.YteikihidblcljaaM1
import Derived.Outline
import Derived.Lib.MinMax
import Derived.Deep.CutBlock
import Derived.StillTailTactics

/- bits.Div64: one step of the long division (plain), and the walk. -/
namespace Go.Proofs.Yteikihidblcljaa
open Go.RowKit
set_option linter.unusedSimpArgs false
set_option linter.unusedVariables false

/-- One step of a long division to the base 2^32: u less than Y = a B + b, a at least B / 2; v the next digit. -/
structure DStep (u v a b : Nat) : Prop where
  a0 : 2147483648 ≤ a
  a1 : a < 4294967296
  b1 : b < 4294967296
  v1 : v < 4294967296
  u1 : u < a * 4294967296 + b

def dQ (u v a b : Nat) : Nat := (u * 4294967296 + v) / (a * 4294967296 + b)

theorem dQ_lt {u v a b : Nat} (h : DStep u v a b) : dQ u v a b < 4294967296 := by
  unfold dQ
  have := h.u1
  have := h.v1
  have := h.a0
  rw [Nat.div_lt_iff_lt_mul (by omega)]
  have : (u + 1) * 4294967296 ≤ (a * 4294967296 + b) * 4294967296 := Nat.mul_le_mul_right _ (by omega)
  omega

/-- A digit that is tried: too large, or not. -/
theorem dQ_test {u v a b q r : Nat} (h : DStep u v a b) (e : u = q * a + r) : dQ u v a b < q ↔ r * 4294967296 + v < q * b := by
  unfold dQ
  have := h.a0
  rw [Nat.div_lt_iff_lt_mul (by omega), e, Nat.mul_add, Nat.add_mul, ← Nat.mul_assoc]
  omega

theorem dQ_start {u v a b : Nat} (h : DStep u v a b) : dQ u v a b ≤ u / a ∧ u / a ≤ 4294967297 ∧ u = u / a * a + u % a ∧ u % a < a := by
  have a0 := h.a0
  have hm := Nat.mod_lt u (show 0 < a by omega)
  have hd := Nat.div_add_mod u a
  have e : u = u / a * a + u % a := by rw [Nat.mul_comm]; exact hd.symm
  refine ⟨?_, ?_, e, hm⟩
  · refine Decidable.byContradiction fun hc => ?_
    have hlt : u / a < dQ u v a b := by omega
    unfold dQ at hlt
    have h1 : (u / a + 1) * (a * 4294967296 + b) ≤ u * 4294967296 + v := (Nat.le_div_iff_mul_le (by omega)).1 hlt
    have h2 : (u / a + 1) * (a * 4294967296 + b) = (u / a * a + a) * 4294967296 + (u / a + 1) * b := by
      rw [Nat.mul_add, ← Nat.mul_assoc, Nat.add_mul (u / a) 1 a, Nat.one_mul]
    have v1 := h.v1
    have h3 : (u + 1) * 4294967296 ≤ (u / a * a + a) * 4294967296 := Nat.mul_le_mul_right _ (by omega)
    omega
  · refine Nat.le_of_lt_succ ((Nat.div_lt_iff_lt_mul (by omega)).2 ?_)
    have u1 := h.u1
    have b1 := h.b1
    omega

theorem dQ_break {u v a b q r : Nat} (h : DStep u v a b) (e : u = q * a + r) (hq : dQ u v a b ≤ q) (q1 : q ≤ 4294967296) (hr : 4294967296 ≤ r) : q = dQ u v a b := by
  refine Nat.le_antisymm ?_ hq
  refine Decidable.byContradiction fun hc => ?_
  have := (dQ_test h e).1 (by omega)
  have b1 := h.b1
  have h2 : q * b ≤ 4294967296 * b := Nat.mul_le_mul_right _ q1
  omega

theorem dQ_dec {u v a b q r : Nat} (e : u = q * a + r) (hq : dQ u v a b < q) : u = (q - 1) * a + (r + a) ∧ dQ u v a b ≤ q - 1 := by
  obtain ⟨k, rfl⟩ : ∃ k, q = k + 1 := ⟨q - 1, by omega⟩
  refine ⟨?_, by omega⟩
  rw [Nat.add_sub_cancel, e, Nat.add_mul]; omega

/-- What is left. -/
def dR (u v a b : Nat) : Nat := (u * 4294967296 + v) % (a * 4294967296 + b)
theorem dR_wrap {u v a b : Nat} (h : DStep u v a b) (Y : Nat) (hY : Y = a * 4294967296 + b) (q : Nat) (hq : q = dQ u v a b) :
    IntKind.u64.wrap (IntKind.u64.wrap (IntKind.u64.wrap ((u : Int) * 4294967296) + v) - IntKind.u64.wrap ((q : Int) * Y)) = (dR u v a b : Nat) ∧ dR u v a b < Y := by
  have hp : 0 < a * 4294967296 + b := by have := h.a0; omega
  have hl : dR u v a b < a * 4294967296 + b := Nat.mod_lt _ hp
  have hd : (a * 4294967296 + b) * dQ u v a b + dR u v a b = u * 4294967296 + v := Nat.div_add_mod _ _
  rw [← hY, ← hq, Nat.mul_comm] at hd
  rw [← hY] at hl
  refine ⟨?_, hl⟩
  have h1 := h.a1
  have h2 := h.b1
  have hd' : (q : Int) * Y + (dR u v a b : Nat) = (u : Int) * 4294967296 + v := by
    rw [← Int.natCast_mul]; omega
  generalize (q : Int) * Y = t at *
  simp only [IntKind.wrap_u64]
  omega

theorem dQR (u v a b : Nat) : (a * 4294967296 + b) * dQ u v a b + dR u v a b = u * 4294967296 + v := Nat.div_add_mod _ _
theorem dR_lt {u v a b : Nat} (h : DStep u v a b) : dR u v a b < a * 4294967296 + b := Nat.mod_lt _ (by have := h.a0; omega)
attribute [irreducible] dQ dR

end Go.Proofs.Yteikihidblcljaa

/- bits.Div64: the walk. -/
namespace Go.Proofs.Yteikihidblcljaa
open Go.RowKit
set_option linter.unusedSimpArgs false
set_option linter.unusedVariables false

theorem key_div (y s N hi lo Y u v1 v0 q1 r1 q0 r0 : Nat) (hN : N = (hi * 18446744073709551616 + lo) * 2 ^ s) (hY : y * 2 ^ s = Y) (p0 : 0 < 2 ^ s) (eN : N = u * 18446744073709551616 + (v1 * 4294967296 + v0)) (e1 : Y * q1 + r1 = u * 4294967296 + v1) (e2 : Y * q0 + r0 = r1 * 4294967296 + v0) (l2 : r0 < Y) :
    q1 * 4294967296 + q0 = (hi * 18446744073709551616 + lo) / y ∧ r0 = (hi * 18446744073709551616 + lo) % y * 2 ^ s := by
  have eN2 : N = Y * (q1 * 4294967296 + q0) + r0 := by
    rw [Nat.mul_add Y (q1 * 4294967296) q0, ← Nat.mul_assoc Y q1]
    have h3 : u * 18446744073709551616 + (v1 * 4294967296 + v0) = (u * 4294967296 + v1) * 4294967296 + v0 := by
      simp only [Nat.add_mul, Nat.mul_assoc, Nat.reduceMul, Nat.add_assoc]
    rw [eN, h3, ← e1, Nat.add_mul, Nat.add_assoc, Nat.add_assoc, e2]
  have d1 : N / Y = q1 * 4294967296 + q0 := by
    rw [eN2, Nat.mul_add_div (by omega), Nat.div_eq_of_lt l2, Nat.add_zero]
  have d2 : N % Y = r0 := by rw [eN2, Nat.mul_add_mod, Nat.mod_eq_of_lt l2]
  rw [hN, ← hY] at d1 d2
  rw [Nat.mul_div_mul_right _ _ p0] at d1
  rw [Nat.mul_mod_mul_right] at d2
  exact ⟨d1.symm, d2.symm⟩

theorem div64_plain (hi lo y s : Nat) (hy : hi < y) (hlo : lo < 18446744073709551616) (h1 : 9223372036854775808 ≤ y * 2 ^ s) (h2 : y * 2 ^ s < 18446744073709551616) (N u m : Nat) (hN : N = (hi * 18446744073709551616 + lo) * 2 ^ s) (hu : u = N / 18446744073709551616) (hm : m = N % 18446744073709551616) (a b : Nat) (ha : a = y * 2 ^ s / 4294967296) (hb : b = y * 2 ^ s % 4294967296) :
    DStep u (m / 4294967296) a b ∧ DStep (dR u (m / 4294967296) a b) (m % 4294967296) a b ∧ dQ u (m / 4294967296) a b * 4294967296 + dQ (dR u (m / 4294967296) a b) (m % 4294967296) a b = (hi * 18446744073709551616 + lo) / y ∧
    dR (dR u (m / 4294967296) a b) (m % 4294967296) a b = (hi * 18446744073709551616 + lo) % y * 2 ^ s := by
  have p0 : 0 < 2 ^ s := Nat.pow_pos (by decide)
  obtain ⟨Y, hY⟩ : ∃ Y, y * 2 ^ s = Y := ⟨_, rfl⟩
  rw [hY] at h1 h2 ha hb
  have eY : a * 4294967296 + b = Y := by omega
  have y0 : 0 < y := by omega
  have hlt : N < Y * 18446744073709551616 := by
    rw [hN, ← hY, Nat.mul_right_comm]
    exact Nat.mul_lt_mul_of_pos_right (by
      have : (hi + 1) * 18446744073709551616 ≤ y * 18446744073709551616 := Nat.mul_le_mul_right _ hy
      omega) p0
  have u1 : u < Y := by rw [hu, Nat.div_lt_iff_lt_mul (by decide)]; exact hlt
  have D1 : DStep u (m / 4294967296) a b := ⟨by omega, by omega, by omega, by omega, by rw [eY]; exact u1⟩
  have hr1 : dR u (m / 4294967296) a b < Y := by rw [← eY]; exact dR_lt D1
  have D2 : DStep (dR u (m / 4294967296) a b) (m % 4294967296) a b := ⟨D1.a0, D1.a1, D1.b1, by omega, by rw [eY]; exact hr1⟩
  refine ⟨D1, D2, ?_⟩
  have e1 : Y * dQ u (m / 4294967296) a b + dR u (m / 4294967296) a b = u * 4294967296 + m / 4294967296 := by rw [← eY]; exact dQR _ _ _ _
  have e2 : Y * dQ (dR u (m / 4294967296) a b) (m % 4294967296) a b + dR (dR u (m / 4294967296) a b) (m % 4294967296) a b = dR u (m / 4294967296) a b * 4294967296 + m % 4294967296 := by rw [← eY]; exact dQR _ _ _ _
  have l2 : dR (dR u (m / 4294967296) a b) (m % 4294967296) a b < Y := by rw [← eY]; exact dR_lt D2
  have eNu : N = u * 18446744073709551616 + m := by rw [hu, hm]; omega
  have p4 := key_div y s N hi lo Y u (m / 4294967296) (m % 4294967296) _ _ _ _ hN hY p0 (by omega) e1 e2 l2
  exact p4

set_option maxHeartbeats 800000 in
theorem lz64_any (y : Nat) (h0 : y ≠ 0) (h : y < 18446744073709551616) (w : World) :
    Calls Try.prog 114 #[.int .u64 y] w fun e w' => e = .returned (.int .i64 ((64 - bl y : Nat) : Int)) ∧ w = w' := by
  have hb : bl y ≤ 64 := bl_le (by exact h)
  have HL := Hd.mk (len64_any y h)
  have HE : Hd ((64 : Int) - bl y = ((64 - bl y : Nat) : Int)) := ⟨by omega⟩
  go_enter Try.func114, Try.ntmps114
  go_wp2_with fail
  refine (HL.out _).mono ?_; rintro e w' ⟨rfl, rfl⟩
  go_wp2_with fail
  go_ret
  exact ⟨by rw [← HE.out]; rfl, rfl⟩

theorem lz_facts (y : Nat) (h0 : y ≠ 0) (h : y < 18446744073709551616) : 64 - bl y ≤ 63 ∧ 9223372036854775808 ≤ y * 2 ^ (64 - bl y) ∧ y * 2 ^ (64 - bl y) < 18446744073709551616 := by
  have hb : bl y ≤ 64 := bl_le (by exact h)
  have hp := bl_pos h0
  have hs := bl_shift h0 (64 - bl y)
  rw [show bl y + (64 - bl y) = 64 by omega] at hs
  have a := bl_lt (y * 2 ^ (64 - bl y))
  have b := le_of_bl (x := y * 2 ^ (64 - bl y)) (n := 63) (by omega)
  rw [hs] at a
  exact ⟨by omega, b, a⟩

theorem andM (x : Nat) (hx : x < 18446744073709551616) : bits .and .u64 (x : Int) 4294967295 = ((x % 4294967296 : Nat) : Int) := by
  have := u64_and_nat x 4294967295 hx (by decide)
  rw [show ((4294967295 : Nat) : Int) = 4294967295 from rfl] at this
  rw [this]
  show ((x &&& (2 ^ 32 - 1) : Nat) : Int) = _
  rw [Nat.and_two_pow_sub_one_eq_mod]


theorem nat_shift (x s : Nat) : (x : Int) * 2 ^ s = ((x * 2 ^ s : Nat) : Int) := by push_cast; rfl
def nN (hi lo s : Nat) : Nat := (hi * W64 + lo) * 2 ^ s
theorem nN_int (hi lo s : Nat) : ((hi : Int) * 18446744073709551616 + lo) * 2 ^ s = (nN hi lo s : Int) := by
  unfold nN
  rw [Int.natCast_mul, Int.natCast_add, Int.natCast_mul, W64_int]
  congr 1
theorem nN_lit (hi lo s : Nat) : nN hi lo s = (hi * 18446744073709551616 + lo) * 2 ^ s := by unfold nN W64; rfl
theorem word_0 (N : Nat) : dZ (N : Int) 0 = ((N % 18446744073709551616 : Nat) : Int) := by
  unfold dZ; rw [PW_zero, Int.ediv_one]; rfl
theorem word_1 (N : Nat) (h : N / 18446744073709551616 < 18446744073709551616) : dZ (N : Int) 1 = ((N / 18446744073709551616 : Nat) : Int) := by
  unfold dZ
  rw [show PW 1 = 18446744073709551616 by rw [PW_nat]; rfl]
  show (N : Int) / 18446744073709551616 % 18446744073709551616 = _
  omega

/-- What the long division needs. -/
structure DFacts (hi lo y s Y u m a b v1 v0 Q R : Nat) : Prop where
  fY : IntKind.u64.wrap ((y : Int) * 2 ^ s) = (Y : Int)
  fU : bits BinOp.or IntKind.u64 (IntKind.u64.wrap ((hi : Int) * 2 ^ s)) ((lo : Int) / 2 ^ (64 - s)) = (u : Int)
  fM : IntKind.u64.wrap ((lo : Int) * 2 ^ s) = (m : Int)
  fA : (Y : Int) / 4294967296 = (a : Int)
  fB : bits .and .u64 (Y : Int) 4294967295 = (b : Int)
  fV : (m : Int) / 4294967296 = (v1 : Int)
  fW : bits .and .u64 (m : Int) 4294967295 = (v0 : Int)
  eY : Y = a * 4294967296 + b
  D1 : DStep u v1 a b
  D2 : DStep (dR u v1 a b) v0 a b
  eq : dQ u v1 a b * 4294967296 + dQ (dR u v1 a b) v0 a b = Q
  er : (dR (dR u v1 a b) v0 a b : Int) / 2 ^ s = (R : Int)

theorem dfacts (hi lo y s : Nat) (hy : hi < y) (hlo : lo < 18446744073709551616) (hs : s ≤ 63) (h1 : 9223372036854775808 ≤ y * 2 ^ s) (h2 : y * 2 ^ s < 18446744073709551616) :
    ∃ Y u m a b v1 v0, DFacts hi lo y s Y u m a b v1 v0 ((hi * 18446744073709551616 + lo) / y) ((hi * 18446744073709551616 + lo) % y) := by
  have p0 : 0 < 2 ^ s := Nat.pow_pos (by decide)
  obtain ⟨P1, P2, P3, P4⟩ := div64_plain hi lo y s hy hlo h1 h2 (nN hi lo s) _ _ (nN_lit hi lo s) rfl rfl _ _ rfl rfl
  have hy1 : y ≤ y * 2 ^ s := Nat.le_mul_of_pos_right _ p0
  obtain ⟨w0, w1, _, _, _⟩ := put_words hi lo s (by omega) hlo (by omega)
  rw [nN_int] at w0 w1
  have hu : nN hi lo s / 18446744073709551616 < 18446744073709551616 := by
    have := P1.u1
    have := P1.a1
    have := P1.b1
    omega
  refine ⟨y * 2 ^ s, _, nN hi lo s % 18446744073709551616, _, _, _, _, ?_, ?_, ?_, ?_, ?_, ?_, ?_, ?_, P1, P2, P3, ?_⟩
  · rw [nat_shift, IntKind.wrap_u64]; omega
  · rw [w1, word_1 _ hu]
  · rw [w0, word_0]
  · omega
  · exact andM _ h2
  · omega
  · exact andM _ (Nat.mod_lt _ (by decide))
  · omega
  · rw [P4, Int.natCast_mul, show (((2 ^ s : Nat)) : Int) = 2 ^ s by push_cast; rfl]
    exact Int.mul_ediv_cancel _ (by have : (2 : Int) ^ s = ((2 ^ s : Nat) : Int) := by push_cast; rfl
                                    omega)

theorem dstart {u v a b : Nat} (h : DStep u v a b) : ∃ q P r : Nat, IntKind.u64.wrap ((u : Int) / (a : Int)) = (q : Int) ∧ IntKind.u64.wrap ((q : Int) * (a : Int)) = (P : Int) ∧ IntKind.u64.wrap ((u : Int) - P) = (r : Int) ∧ (r : Int) < 4294967296 ∧ (q : Int) ≤ 4294967297 ∧ u = q * a + r ∧ dQ u v a b ≤ q := by
  obtain ⟨h1, h2, h3, h4⟩ := dQ_start h
  have hu : u < 18446744073709551616 := by have := h.u1; have := h.a1; have := h.b1; omega
  have ha := h.a1
  refine ⟨u / a, u / a * a, u % a, ?_, ?_, ?_, by omega, by omega, h3, h1⟩
  · rw [show (u : Int) / (a : Int) = ((u / a : Nat) : Int) from rfl, IntKind.wrap_u64]; omega
  · rw [← Int.natCast_mul, IntKind.wrap_u64]; omega
  · rw [IntKind.wrap_u64]; omega

theorem dprod {q b : Nat} (h1 : q ≤ 4294967296) (h2 : b < 4294967296) : ∃ P : Nat, IntKind.u64.wrap ((q : Int) * (b : Int)) = (P : Int) ∧ P = q * b := by
  have h3 : q * b ≤ 4294967296 * b := Nat.mul_le_mul_right _ h1
  refine ⟨q * b, ?_, rfl⟩
  rw [← Int.natCast_mul, IntKind.wrap_u64]; omega

theorem ret2_u64 {a b c d : Int} (h : a = b) (h' : c = d) : Ending.returned (.tuple #[.int .u64 a, .int .u64 c]) = .returned (.tuple #[.int .u64 b, .int .u64 d]) := by rw [h, h']



set_option maxHeartbeats 3200000 in
set_option maxRecDepth 100000 in
theorem div64_far (hi lo y : Nat) (h0 : 0 < hi) (hy : hi < y) (h1 : lo < 18446744073709551616) (h2 : y < 18446744073709551616) (w : World) :
    Calls Try.prog 73 #[.int .u64 hi, .int .u64 lo, .int .u64 y] w fun e w' => e = .returned (.tuple #[.int .u64 (((hi * 18446744073709551616 + lo) / y : Nat) : Int), .int .u64 (((hi * 18446744073709551616 + lo) % y : Nat) : Int)]) ∧ w' = w := by
  have y0 : y ≠ 0 := by omega
  obtain ⟨s1, s2, s3⟩ := lz_facts y y0 h2
  have HLz := Hd.mk (lz64_any y y0 h2)
  obtain ⟨s, hs⟩ : ∃ s, 64 - bl y = s := ⟨_, rfl⟩
  rw [hs] at s1 s2 s3 HLz
  obtain ⟨Y, u, m, a, b, v1, v0, F⟩ := dfacts hi lo y s hy h1 s1 s2 s3
  generalize (hi * 18446744073709551616 + lo) / y = QQ at *
  generalize (hi * 18446744073709551616 + lo) % y = RR at *
  have fY := F.fY
  have fU := F.fU
  have fM := F.fM
  have fA := F.fA
  have fB := F.fB
  have fV := F.fV
  have fW := F.fW
  have HF := Hd.mk F
  have a1 : (1 : Int) ≤ a := by have := F.D1.a0; omega
  have a2 : (a : Int) ≤ 4294967295 := by have := F.D1.a1; omega
  have a3 : (v1 : Int) ≤ 4294967295 := by have := F.D1.v1; omega
  have a4 : (v0 : Int) ≤ 4294967295 := by have := F.D2.v1; omega
  have t1 : ((y : Int) == 0) = false := by rw [beq_eq_false_iff_ne]; omega
  have t2 : ((hi : Int) == 0) = false := by rw [beq_eq_false_iff_ne]; omega
  have t3 : decide (y ≤ hi) = false := by simp; omega
  have s0 : (0 : Int) ≤ s := by omega
  have s4 : (s : Int) ≤ 63 := by omega
  obtain ⟨q, P, r, d1, d2, d3, d4, d5, d6, d7⟩ := dstart F.D1
  have D6 := Hd.mk d6
  have D7 := Hd.mk d7
  clear hs F s1 s2 s3 y0 h0 hy h1 h2 d6 d7
  go_enter Try.func73, Try.ntmps73
  go_wp2_with fail
  refine (HLz.out _).mono ?_; rintro e w' ⟨rfl, rfl⟩
  clear HLz
  go_wp2_with fail
  clear fY fU fM fA fB fV fW t1 t2 t3 d1 d2 d3
  go_loop [15, 16] (fun qv rv => ∃ q r : Nat, qv = .int .u64 q ∧ rv = .int .u64 r ∧ Hd (u = q * a + r) ∧ Hd (dQ u v1 a b ≤ q) ∧ (q : Int) ≤ 4294967297 ∧ (r : Int) < 4294967296) (fun qv _ => (intOf qv).toNat)
  case atStart => exact ⟨q, r, rfl, rfl, D6, D7, d5, d4⟩
  case round =>
    clear D6 D7 d4 d5
    obtain ⟨x, z, rfl, rfl, D6, D7, d5, d4⟩ := hrel
    by_cases hlt : dQ u v1 a b < x
    · have HL := Hd.mk hlt
      have HT := Hd.mk ((dQ_test HF.out.D1 D6.out).1 hlt)
      obtain ⟨n1, n2⟩ := dQ_dec D6.out hlt
      have N1 := Hd.mk n1
      have N2 := Hd.mk n2
      have q0 : (1 : Int) ≤ x := by omega
      obtain ⟨X, hXx⟩ : ∃ X, X = x - 1 := ⟨_, rfl⟩
      have e9 : (x : Int) - 1 = (X : Int) := by omega
      have E9 := Hd.mk hXx
      clear hlt n1 n2 hXx
      by_cases hz : 4294967296 ≤ z + a
      · have hz' : (4294967296 : Int) ≤ (z : Int) + a := by omega
        have HX : Hd (X = dQ u v1 a b) := ⟨by rw [E9.out]; exact dQ_break HF.out.D1 N1.out N2.out (by omega) hz⟩
        clear hz
        by_cases hq : 4294967296 ≤ x
        · have hq' : (4294967296 : Int) ≤ x := by omega
          clear hq
          obtain ⟨g1, g2⟩ := dR_wrap HF.out.D1 Y HF.out.eY X HX.out
          obtain ⟨R1, hR1⟩ : ∃ R1, dR u v1 a b = R1 := ⟨_, rfl⟩
          rw [hR1] at g1
          have D2 : Hd (DStep R1 v0 a b) := ⟨by rw [← hR1]; exact HF.out.D2⟩
          have EQ : Hd (X * 4294967296 + dQ R1 v0 a b = QQ) := ⟨by rw [← hR1, HX.out]; exact HF.out.eq⟩
          have ER : Hd ((dR R1 v0 a b : Int) / 2 ^ s = (RR : Int)) := ⟨by rw [← hR1]; exact HF.out.er⟩
          clear hR1 g2
          obtain ⟨q', P', r', k1, k2, k3, k4, k5, k6, k7⟩ := dstart D2.out
          have K6 := Hd.mk k6
          have K7 := Hd.mk k7
          clear k6 k7
          go_wp2_with fail
          clear g1 k1 k2 k3
          go_loop [18, 16] (fun qv rv => ∃ q r : Nat, qv = .int .u64 q ∧ rv = .int .u64 r ∧ Hd (R1 = q * a + r) ∧ Hd (dQ R1 v0 a b ≤ q) ∧ (q : Int) ≤ 4294967297 ∧ (r : Int) < 4294967296) (fun qv _ => (intOf qv).toNat)
          case atStart => exact ⟨q', r', rfl, rfl, K6, K7, k5, k4⟩
          case round =>
            clear K6 K7 k4 k5
            obtain ⟨x', z', rfl, rfl, K6, K7, k5, k4⟩ := hrel
            by_cases hlt : dQ R1 v0 a b < x'
            · have HL' := Hd.mk hlt
              have HT' := Hd.mk ((dQ_test D2.out K6.out).1 hlt)
              obtain ⟨n1, n2⟩ := dQ_dec K6.out hlt
              have N1' := Hd.mk n1
              have N2' := Hd.mk n2
              have q0' : (1 : Int) ≤ x' := by omega
              obtain ⟨X2, hX2⟩ : ∃ X2, X2 = x' - 1 := ⟨_, rfl⟩
              have e9' : (x' : Int) - 1 = (X2 : Int) := by omega
              have E9' := Hd.mk hX2
              clear hlt n1 n2 hX2
              by_cases hz : 4294967296 ≤ z' + a
              · have hz' : (4294967296 : Int) ≤ (z' : Int) + a := by omega
                have HX2 : Hd (X2 = dQ R1 v0 a b) := ⟨by rw [E9'.out]; exact dQ_break D2.out N1'.out N2'.out (by omega) hz⟩
                clear hz
                by_cases hq : 4294967296 ≤ x'
                · have hq' : (4294967296 : Int) ≤ x' := by omega
                  clear hq
                  have HR2 := dR_wrap D2.out Y HF.out.eY X2 HX2.out
                  obtain ⟨f1, f2⟩ := HR2
                  obtain ⟨R0, hR0⟩ : ∃ R0, dR R1 v0 a b = R0 := ⟨_, rfl⟩
                  rw [hR0] at f1
                  have ER2 : Hd ((R0 : Int) / 2 ^ s = (RR : Int)) := ⟨by rw [← hR0]; exact ER.out⟩
                  have B1 : (X : Int) ≤ 4294967295 := by have := dQ_lt HF.out.D1; rw [← HX.out] at this; omega
                  have B2 : (X2 : Int) ≤ 4294967295 := by have := dQ_lt D2.out; rw [← HX2.out] at this; omega
                  have EQ2 : Hd ((X : Int) * 4294967296 + X2 = (QQ : Int)) := ⟨by have := EQ.out; rw [← HX2.out] at this; omega⟩
                  clear hR0 f2
                  go_wp2_with fail
                  go_ret2
                  exact ⟨ret2_u64 EQ2.out ER2.out, rfl⟩
                · have hq' : ¬ (4294967296 : Int) ≤ x' := by omega
                  obtain ⟨P3, e1', e2'⟩ := dprod (q := x') (b := b) (by omega) HF.out.D1.b1
                  have e3' : 4294967296 * (z' : Int) + v0 < P3 := by have h := HT'.out; rw [← e2'] at h; omega
                  clear e2' hq
                  have HR2 := dR_wrap D2.out Y HF.out.eY X2 HX2.out
                  obtain ⟨f1, f2⟩ := HR2
                  obtain ⟨R0, hR0⟩ : ∃ R0, dR R1 v0 a b = R0 := ⟨_, rfl⟩
                  rw [hR0] at f1
                  have ER2 : Hd ((R0 : Int) / 2 ^ s = (RR : Int)) := ⟨by rw [← hR0]; exact ER.out⟩
                  have B1 : (X : Int) ≤ 4294967295 := by have := dQ_lt HF.out.D1; rw [← HX.out] at this; omega
                  have B2 : (X2 : Int) ≤ 4294967295 := by have := dQ_lt D2.out; rw [← HX2.out] at this; omega
                  have EQ2 : Hd ((X : Int) * 4294967296 + X2 = (QQ : Int)) := ⟨by have := EQ.out; rw [← HX2.out] at this; omega⟩
                  clear hR0 f2
                  go_wp2_with fail
                  go_ret2
                  exact ⟨ret2_u64 EQ2.out ER2.out, rfl⟩
              · have hz' : ¬ (4294967296 : Int) ≤ (z' : Int) + a := by omega
                clear hz
                by_cases hq : 4294967296 ≤ x'
                · have hq' : (4294967296 : Int) ≤ x' := by omega
                  clear hq
                  go_wp2_with fail
                  exact ⟨⟨X2, z' + a, rfl, by go_num, ⟨by rw [E9'.out]; exact N1'.out⟩, ⟨by rw [E9'.out]; exact N2'.out⟩, by omega, by omega⟩, by simp [intOf]; omega⟩
                · have hq' : ¬ (4294967296 : Int) ≤ x' := by omega
                  obtain ⟨P3, e1', e2'⟩ := dprod (q := x') (b := b) (by omega) HF.out.D1.b1
                  have e3' : 4294967296 * (z' : Int) + v0 < P3 := by have h := HT'.out; rw [← e2'] at h; omega
                  clear e2' hq
                  go_wp2_with fail
                  exact ⟨⟨X2, z' + a, rfl, by go_num, ⟨by rw [E9'.out]; exact N1'.out⟩, ⟨by rw [E9'.out]; exact N2'.out⟩, by omega, by omega⟩, by simp [intOf]; omega⟩
            · have hq : x' = dQ R1 v0 a b := Nat.le_antisymm (by omega) K7.out
              have HQ := dQ_lt D2.out
              rw [← hq] at HQ
              have hq' : ¬ (4294967296 : Int) ≤ x' := by omega
              obtain ⟨P3, e1', e2'⟩ := dprod (q := x') (b := b) (by omega) HF.out.D1.b1
              have e3' : ¬ 4294967296 * (z' : Int) + v0 < P3 := by
                have h : ¬ (z' * 4294967296 + v0 < x' * b) := fun h => hlt ((dQ_test D2.out K6.out).2 h)
                rw [← e2'] at h; omega
              have HX2 := Hd.mk hq
              clear e2' hq HQ hlt
              obtain ⟨X2, hXX2⟩ : ∃ X2, X2 = x' := ⟨_, rfl⟩
              subst hXX2
              have HR2 := dR_wrap D2.out Y HF.out.eY X2 HX2.out
              obtain ⟨f1, f2⟩ := HR2
              obtain ⟨R0, hR0⟩ : ∃ R0, dR R1 v0 a b = R0 := ⟨_, rfl⟩
              rw [hR0] at f1
              have ER2 : Hd ((R0 : Int) / 2 ^ s = (RR : Int)) := ⟨by rw [← hR0]; exact ER.out⟩
              have B1 : (X : Int) ≤ 4294967295 := by have := dQ_lt HF.out.D1; rw [← HX.out] at this; omega
              have B2 : (X2 : Int) ≤ 4294967295 := by have := dQ_lt D2.out; rw [← HX2.out] at this; omega
              have EQ2 : Hd ((X : Int) * 4294967296 + X2 = (QQ : Int)) := ⟨by have := EQ.out; rw [← HX2.out] at this; omega⟩
              clear hR0 f2
              go_wp2_with fail
              go_ret2
              exact ⟨ret2_u64 EQ2.out ER2.out, rfl⟩
        · have hq' : ¬ (4294967296 : Int) ≤ x := by omega
          obtain ⟨P2, e1, e2⟩ := dprod (q := x) (b := b) (by omega) HF.out.D1.b1
          have e3 : 4294967296 * (z : Int) + v1 < P2 := by have h := HT.out; rw [← e2] at h; omega
          have E2 := Hd.mk e2
          clear e2 hq
          obtain ⟨g1, g2⟩ := dR_wrap HF.out.D1 Y HF.out.eY X HX.out
          obtain ⟨R1, hR1⟩ : ∃ R1, dR u v1 a b = R1 := ⟨_, rfl⟩
          rw [hR1] at g1
          have D2 : Hd (DStep R1 v0 a b) := ⟨by rw [← hR1]; exact HF.out.D2⟩
          have EQ : Hd (X * 4294967296 + dQ R1 v0 a b = QQ) := ⟨by rw [← hR1, HX.out]; exact HF.out.eq⟩
          have ER : Hd ((dR R1 v0 a b : Int) / 2 ^ s = (RR : Int)) := ⟨by rw [← hR1]; exact HF.out.er⟩
          clear hR1 g2
          obtain ⟨q', P', r', k1, k2, k3, k4, k5, k6, k7⟩ := dstart D2.out
          have K6 := Hd.mk k6
          have K7 := Hd.mk k7
          clear k6 k7
          go_wp2_with fail
          clear g1 k1 k2 k3
          go_loop [18, 16] (fun qv rv => ∃ q r : Nat, qv = .int .u64 q ∧ rv = .int .u64 r ∧ Hd (R1 = q * a + r) ∧ Hd (dQ R1 v0 a b ≤ q) ∧ (q : Int) ≤ 4294967297 ∧ (r : Int) < 4294967296) (fun qv _ => (intOf qv).toNat)
          case atStart => exact ⟨q', r', rfl, rfl, K6, K7, k5, k4⟩
          case round =>
            clear K6 K7 k4 k5
            obtain ⟨x', z', rfl, rfl, K6, K7, k5, k4⟩ := hrel
            by_cases hlt : dQ R1 v0 a b < x'
            · have HL' := Hd.mk hlt
              have HT' := Hd.mk ((dQ_test D2.out K6.out).1 hlt)
              obtain ⟨n1, n2⟩ := dQ_dec K6.out hlt
              have N1' := Hd.mk n1
              have N2' := Hd.mk n2
              have q0' : (1 : Int) ≤ x' := by omega
              obtain ⟨X2, hX2⟩ : ∃ X2, X2 = x' - 1 := ⟨_, rfl⟩
              have e9' : (x' : Int) - 1 = (X2 : Int) := by omega
              have E9' := Hd.mk hX2
              clear hlt n1 n2 hX2
              by_cases hz : 4294967296 ≤ z' + a
              · have hz' : (4294967296 : Int) ≤ (z' : Int) + a := by omega
                have HX2 : Hd (X2 = dQ R1 v0 a b) := ⟨by rw [E9'.out]; exact dQ_break D2.out N1'.out N2'.out (by omega) hz⟩
                clear hz
                by_cases hq : 4294967296 ≤ x'
                · have hq' : (4294967296 : Int) ≤ x' := by omega
                  clear hq
                  have HR2 := dR_wrap D2.out Y HF.out.eY X2 HX2.out
                  obtain ⟨f1, f2⟩ := HR2
                  obtain ⟨R0, hR0⟩ : ∃ R0, dR R1 v0 a b = R0 := ⟨_, rfl⟩
                  rw [hR0] at f1
                  have ER2 : Hd ((R0 : Int) / 2 ^ s = (RR : Int)) := ⟨by rw [← hR0]; exact ER.out⟩
                  have B1 : (X : Int) ≤ 4294967295 := by have := dQ_lt HF.out.D1; rw [← HX.out] at this; omega
                  have B2 : (X2 : Int) ≤ 4294967295 := by have := dQ_lt D2.out; rw [← HX2.out] at this; omega
                  have EQ2 : Hd ((X : Int) * 4294967296 + X2 = (QQ : Int)) := ⟨by have := EQ.out; rw [← HX2.out] at this; omega⟩
                  clear hR0 f2
                  go_wp2_with fail
                  go_ret2
                  exact ⟨ret2_u64 EQ2.out ER2.out, rfl⟩
                · have hq' : ¬ (4294967296 : Int) ≤ x' := by omega
                  obtain ⟨P3, e1', e2'⟩ := dprod (q := x') (b := b) (by omega) HF.out.D1.b1
                  have e3' : 4294967296 * (z' : Int) + v0 < P3 := by have h := HT'.out; rw [← e2'] at h; omega
                  clear e2' hq
                  have HR2 := dR_wrap D2.out Y HF.out.eY X2 HX2.out
                  obtain ⟨f1, f2⟩ := HR2
                  obtain ⟨R0, hR0⟩ : ∃ R0, dR R1 v0 a b = R0 := ⟨_, rfl⟩
                  rw [hR0] at f1
                  have ER2 : Hd ((R0 : Int) / 2 ^ s = (RR : Int)) := ⟨by rw [← hR0]; exact ER.out⟩
                  have B1 : (X : Int) ≤ 4294967295 := by have := dQ_lt HF.out.D1; rw [← HX.out] at this; omega
                  have B2 : (X2 : Int) ≤ 4294967295 := by have := dQ_lt D2.out; rw [← HX2.out] at this; omega
                  have EQ2 : Hd ((X : Int) * 4294967296 + X2 = (QQ : Int)) := ⟨by have := EQ.out; rw [← HX2.out] at this; omega⟩
                  clear hR0 f2
                  go_wp2_with fail
                  go_ret2
                  exact ⟨ret2_u64 EQ2.out ER2.out, rfl⟩
              · have hz' : ¬ (4294967296 : Int) ≤ (z' : Int) + a := by omega
                clear hz
                by_cases hq : 4294967296 ≤ x'
                · have hq' : (4294967296 : Int) ≤ x' := by omega
                  clear hq
                  go_wp2_with fail
                  exact ⟨⟨X2, z' + a, rfl, by go_num, ⟨by rw [E9'.out]; exact N1'.out⟩, ⟨by rw [E9'.out]; exact N2'.out⟩, by omega, by omega⟩, by simp [intOf]; omega⟩
                · have hq' : ¬ (4294967296 : Int) ≤ x' := by omega
                  obtain ⟨P3, e1', e2'⟩ := dprod (q := x') (b := b) (by omega) HF.out.D1.b1
                  have e3' : 4294967296 * (z' : Int) + v0 < P3 := by have h := HT'.out; rw [← e2'] at h; omega
                  clear e2' hq
                  go_wp2_with fail
                  exact ⟨⟨X2, z' + a, rfl, by go_num, ⟨by rw [E9'.out]; exact N1'.out⟩, ⟨by rw [E9'.out]; exact N2'.out⟩, by omega, by omega⟩, by simp [intOf]; omega⟩
            · have hq : x' = dQ R1 v0 a b := Nat.le_antisymm (by omega) K7.out
              have HQ := dQ_lt D2.out
              rw [← hq] at HQ
              have hq' : ¬ (4294967296 : Int) ≤ x' := by omega
              obtain ⟨P3, e1', e2'⟩ := dprod (q := x') (b := b) (by omega) HF.out.D1.b1
              have e3' : ¬ 4294967296 * (z' : Int) + v0 < P3 := by
                have h : ¬ (z' * 4294967296 + v0 < x' * b) := fun h => hlt ((dQ_test D2.out K6.out).2 h)
                rw [← e2'] at h; omega
              have HX2 := Hd.mk hq
              clear e2' hq HQ hlt
              obtain ⟨X2, hXX2⟩ : ∃ X2, X2 = x' := ⟨_, rfl⟩
              subst hXX2
              have HR2 := dR_wrap D2.out Y HF.out.eY X2 HX2.out
              obtain ⟨f1, f2⟩ := HR2
              obtain ⟨R0, hR0⟩ : ∃ R0, dR R1 v0 a b = R0 := ⟨_, rfl⟩
              rw [hR0] at f1
              have ER2 : Hd ((R0 : Int) / 2 ^ s = (RR : Int)) := ⟨by rw [← hR0]; exact ER.out⟩
              have B1 : (X : Int) ≤ 4294967295 := by have := dQ_lt HF.out.D1; rw [← HX.out] at this; omega
              have B2 : (X2 : Int) ≤ 4294967295 := by have := dQ_lt D2.out; rw [← HX2.out] at this; omega
              have EQ2 : Hd ((X : Int) * 4294967296 + X2 = (QQ : Int)) := ⟨by have := EQ.out; rw [← HX2.out] at this; omega⟩
              clear hR0 f2
              go_wp2_with fail
              go_ret2
              exact ⟨ret2_u64 EQ2.out ER2.out, rfl⟩
      · have hz' : ¬ (4294967296 : Int) ≤ (z : Int) + a := by omega
        clear hz
        by_cases hq : 4294967296 ≤ x
        · have hq' : (4294967296 : Int) ≤ x := by omega
          clear hq
          go_wp2_with fail
          exact ⟨⟨X, z + a, rfl, by go_num, ⟨by rw [E9.out]; exact N1.out⟩, ⟨by rw [E9.out]; exact N2.out⟩, by omega, by omega⟩, by simp [intOf]; omega⟩
        · have hq' : ¬ (4294967296 : Int) ≤ x := by omega
          obtain ⟨P2, e1, e2⟩ := dprod (q := x) (b := b) (by omega) HF.out.D1.b1
          have e3 : 4294967296 * (z : Int) + v1 < P2 := by have h := HT.out; rw [← e2] at h; omega
          have E2 := Hd.mk e2
          clear e2 hq
          go_wp2_with fail
          exact ⟨⟨X, z + a, rfl, by go_num, ⟨by rw [E9.out]; exact N1.out⟩, ⟨by rw [E9.out]; exact N2.out⟩, by omega, by omega⟩, by simp [intOf]; omega⟩
    · have hq : x = dQ u v1 a b := Nat.le_antisymm (by omega) D7.out
      have HQ := dQ_lt HF.out.D1
      rw [← hq] at HQ
      have hq' : ¬ (4294967296 : Int) ≤ x := by omega
      obtain ⟨P2, e1, e2⟩ := dprod (q := x) (b := b) (by omega) HF.out.D1.b1
      have e3 : ¬ 4294967296 * (z : Int) + v1 < P2 := by
        have h : ¬ (z * 4294967296 + v1 < x * b) := fun h => hlt ((dQ_test HF.out.D1 D6.out).2 h)
        rw [← e2] at h; omega
      have E2 := Hd.mk e2
      have HX := Hd.mk hq
      clear e2 hq HQ hlt
      obtain ⟨X, hXX⟩ : ∃ X, X = x := ⟨_, rfl⟩
      subst hXX
      obtain ⟨g1, g2⟩ := dR_wrap HF.out.D1 Y HF.out.eY X HX.out
      obtain ⟨R1, hR1⟩ : ∃ R1, dR u v1 a b = R1 := ⟨_, rfl⟩
      rw [hR1] at g1
      have D2 : Hd (DStep R1 v0 a b) := ⟨by rw [← hR1]; exact HF.out.D2⟩
      have EQ : Hd (X * 4294967296 + dQ R1 v0 a b = QQ) := ⟨by rw [← hR1, HX.out]; exact HF.out.eq⟩
      have ER : Hd ((dR R1 v0 a b : Int) / 2 ^ s = (RR : Int)) := ⟨by rw [← hR1]; exact HF.out.er⟩
      clear hR1 g2
      obtain ⟨q', P', r', k1, k2, k3, k4, k5, k6, k7⟩ := dstart D2.out
      have K6 := Hd.mk k6
      have K7 := Hd.mk k7
      clear k6 k7
      go_wp2_with fail
      clear g1 k1 k2 k3
      go_loop [18, 16] (fun qv rv => ∃ q r : Nat, qv = .int .u64 q ∧ rv = .int .u64 r ∧ Hd (R1 = q * a + r) ∧ Hd (dQ R1 v0 a b ≤ q) ∧ (q : Int) ≤ 4294967297 ∧ (r : Int) < 4294967296) (fun qv _ => (intOf qv).toNat)
      case atStart => exact ⟨q', r', rfl, rfl, K6, K7, k5, k4⟩
      case round =>
        clear K6 K7 k4 k5
        obtain ⟨x', z', rfl, rfl, K6, K7, k5, k4⟩ := hrel
        by_cases hlt : dQ R1 v0 a b < x'
        · have HL' := Hd.mk hlt
          have HT' := Hd.mk ((dQ_test D2.out K6.out).1 hlt)
          obtain ⟨n1, n2⟩ := dQ_dec K6.out hlt
          have N1' := Hd.mk n1
          have N2' := Hd.mk n2
          have q0' : (1 : Int) ≤ x' := by omega
          obtain ⟨X2, hX2⟩ : ∃ X2, X2 = x' - 1 := ⟨_, rfl⟩
          have e9' : (x' : Int) - 1 = (X2 : Int) := by omega
          have E9' := Hd.mk hX2
          clear hlt n1 n2 hX2
          by_cases hz : 4294967296 ≤ z' + a
          · have hz' : (4294967296 : Int) ≤ (z' : Int) + a := by omega
            have HX2 : Hd (X2 = dQ R1 v0 a b) := ⟨by rw [E9'.out]; exact dQ_break D2.out N1'.out N2'.out (by omega) hz⟩
            clear hz
            by_cases hq : 4294967296 ≤ x'
            · have hq' : (4294967296 : Int) ≤ x' := by omega
              clear hq
              have HR2 := dR_wrap D2.out Y HF.out.eY X2 HX2.out
              obtain ⟨f1, f2⟩ := HR2
              obtain ⟨R0, hR0⟩ : ∃ R0, dR R1 v0 a b = R0 := ⟨_, rfl⟩
              rw [hR0] at f1
              have ER2 : Hd ((R0 : Int) / 2 ^ s = (RR : Int)) := ⟨by rw [← hR0]; exact ER.out⟩
              have B1 : (X : Int) ≤ 4294967295 := by have := dQ_lt HF.out.D1; rw [← HX.out] at this; omega
              have B2 : (X2 : Int) ≤ 4294967295 := by have := dQ_lt D2.out; rw [← HX2.out] at this; omega
              have EQ2 : Hd ((X : Int) * 4294967296 + X2 = (QQ : Int)) := ⟨by have := EQ.out; rw [← HX2.out] at this; omega⟩
              clear hR0 f2
              go_wp2_with fail
              go_ret2
              exact ⟨ret2_u64 EQ2.out ER2.out, rfl⟩
            · have hq' : ¬ (4294967296 : Int) ≤ x' := by omega
              obtain ⟨P3, e1', e2'⟩ := dprod (q := x') (b := b) (by omega) HF.out.D1.b1
              have e3' : 4294967296 * (z' : Int) + v0 < P3 := by have h := HT'.out; rw [← e2'] at h; omega
              clear e2' hq
              have HR2 := dR_wrap D2.out Y HF.out.eY X2 HX2.out
              obtain ⟨f1, f2⟩ := HR2
              obtain ⟨R0, hR0⟩ : ∃ R0, dR R1 v0 a b = R0 := ⟨_, rfl⟩
              rw [hR0] at f1
              have ER2 : Hd ((R0 : Int) / 2 ^ s = (RR : Int)) := ⟨by rw [← hR0]; exact ER.out⟩
              have B1 : (X : Int) ≤ 4294967295 := by have := dQ_lt HF.out.D1; rw [← HX.out] at this; omega
              have B2 : (X2 : Int) ≤ 4294967295 := by have := dQ_lt D2.out; rw [← HX2.out] at this; omega
              have EQ2 : Hd ((X : Int) * 4294967296 + X2 = (QQ : Int)) := ⟨by have := EQ.out; rw [← HX2.out] at this; omega⟩
              clear hR0 f2
              go_wp2_with fail
              go_ret2
              exact ⟨ret2_u64 EQ2.out ER2.out, rfl⟩
          · have hz' : ¬ (4294967296 : Int) ≤ (z' : Int) + a := by omega
            clear hz
            by_cases hq : 4294967296 ≤ x'
            · have hq' : (4294967296 : Int) ≤ x' := by omega
              clear hq
              go_wp2_with fail
              exact ⟨⟨X2, z' + a, rfl, by go_num, ⟨by rw [E9'.out]; exact N1'.out⟩, ⟨by rw [E9'.out]; exact N2'.out⟩, by omega, by omega⟩, by simp [intOf]; omega⟩
            · have hq' : ¬ (4294967296 : Int) ≤ x' := by omega
              obtain ⟨P3, e1', e2'⟩ := dprod (q := x') (b := b) (by omega) HF.out.D1.b1
              have e3' : 4294967296 * (z' : Int) + v0 < P3 := by have h := HT'.out; rw [← e2'] at h; omega
              clear e2' hq
              go_wp2_with fail
              exact ⟨⟨X2, z' + a, rfl, by go_num, ⟨by rw [E9'.out]; exact N1'.out⟩, ⟨by rw [E9'.out]; exact N2'.out⟩, by omega, by omega⟩, by simp [intOf]; omega⟩
        · have hq : x' = dQ R1 v0 a b := Nat.le_antisymm (by omega) K7.out
          have HQ := dQ_lt D2.out
          rw [← hq] at HQ
          have hq' : ¬ (4294967296 : Int) ≤ x' := by omega
          obtain ⟨P3, e1', e2'⟩ := dprod (q := x') (b := b) (by omega) HF.out.D1.b1
          have e3' : ¬ 4294967296 * (z' : Int) + v0 < P3 := by
            have h : ¬ (z' * 4294967296 + v0 < x' * b) := fun h => hlt ((dQ_test D2.out K6.out).2 h)
            rw [← e2'] at h; omega
          have HX2 := Hd.mk hq
          clear e2' hq HQ hlt
          obtain ⟨X2, hXX2⟩ : ∃ X2, X2 = x' := ⟨_, rfl⟩
          subst hXX2
          have HR2 := dR_wrap D2.out Y HF.out.eY X2 HX2.out
          obtain ⟨f1, f2⟩ := HR2
          obtain ⟨R0, hR0⟩ : ∃ R0, dR R1 v0 a b = R0 := ⟨_, rfl⟩
          rw [hR0] at f1
          have ER2 : Hd ((R0 : Int) / 2 ^ s = (RR : Int)) := ⟨by rw [← hR0]; exact ER.out⟩
          have B1 : (X : Int) ≤ 4294967295 := by have := dQ_lt HF.out.D1; rw [← HX.out] at this; omega
          have B2 : (X2 : Int) ≤ 4294967295 := by have := dQ_lt D2.out; rw [← HX2.out] at this; omega
          have EQ2 : Hd ((X : Int) * 4294967296 + X2 = (QQ : Int)) := ⟨by have := EQ.out; rw [← HX2.out] at this; omega⟩
          clear hR0 f2
          go_wp2_with fail
          go_ret2
          exact ⟨ret2_u64 EQ2.out ER2.out, rfl⟩

end Go.Proofs.Yteikihidblcljaa

/- Plain: what near tells, by words. No program. -/
namespace Go.Proofs.Yteikihidblcljaa
set_option linter.unusedVariables false

/-- So many bits are dropped. -/
def nearK (z : Nat) : Nat := max (bl z - 53) 1074
/-- The float that is near of z units of 2^-2148. -/
def nearZ (s : Bool) (z : Nat) (more : Bool) : Nat := madeN s (rnd z (-2148) more)

theorem near_rnd (z : Nat) (more : Bool) : rnd z (-2148) more = (nearK z - 1074) * 4503599627370496 + rh z (nearK z) more ∧ rh z (nearK z) more ≤ 9007199254740992 ∧ (1074 < nearK z → 4503599627370496 ≤ rh z (nearK z) more) := by
  have hl : lsb z (-2148) = (nearK z : Int) - 2148 := by unfold lsb nearK; omega
  have hk : 1074 ≤ nearK z := by unfold nearK; omega
  refine ⟨?_, ?_, fun h => ?_⟩
  · unfold rnd
    rw [hl, if_neg (by omega), show ((nearK z : Int) - 2148 + 1074).toNat = nearK z - 1074 by omega, show ((nearK z : Int) - 2148 - -2148).toNat = nearK z by omega]
  · have h1 : z / 2 ^ nearK z < 9007199254740992 := by
      rw [Nat.div_lt_iff_lt_mul (Nat.pow_pos (by decide)), show 9007199254740992 = 2 ^ 53 by decide, ← Nat.pow_add]
      exact Nat.lt_of_lt_of_le (bl_lt z) (Nat.pow_le_pow_right (by decide) (by unfold nearK; omega))
    unfold rh; split <;> omega
  · have h1 : 4503599627370496 ≤ z / 2 ^ nearK z := by
      rw [Nat.le_div_iff_mul_le (Nat.pow_pos (by decide)), show 4503599627370496 = 2 ^ 52 by decide, ← Nat.pow_add]
      refine le_of_bl ?_
      unfold nearK at *; omega
    unfold rh; omega

theorem near_plain (z : Nat) (more : Bool) : dbl.nearest false (rh z (nearK z) more) ((nearK z : Int) - 2148) = nearZ false z more := by
  obtain ⟨h1, h2, h3⟩ := near_rnd z more
  have hk : 1074 ≤ nearK z := by unfold nearK; omega
  unfold nearZ
  rw [h1, madeN_word]
  generalize rh z (nearK z) more = H at *
  generalize nearK z = K at *
  by_cases h0 : H = 0
  · have hK : K = 1074 := by
      refine Decidable.byContradiction fun hc => ?_
      have := h3 (by omega); omega
    rw [h0, hK]
    unfold Ieee.Format.nearest
    rw [if_pos rfl]; rfl
  · rw [nearest_rnd _ _ _ h0]
    have : rnd H ((K : Int) - 2148) false = (K - 1074) * 4503599627370496 + H := by
      by_cases ht : H = 9007199254740992
      · rw [ht, rnd_top _ (by omega), show ((K : Int) - 2148 + 1074).toNat = K - 1074 by omega]
      · by_cases hb : K = 1074
        · rw [hb, show ((1074 : Nat) : Int) - 2148 = -1074 by omega, rnd_low H (by omega)]; omega
        · rw [rnd_row H _ (h3 (by omega)) (by omega) (by omega), show ((K : Int) - 2148 + 1074).toNat = K - 1074 by omega]
    rw [this]

/-- A word of a number from 0 on. -/
def wN (z i : Nat) : Nat := z / 2 ^ (64 * i) % 18446744073709551616
theorem wN_lt (z i : Nat) : wN z i < 18446744073709551616 := Nat.mod_lt _ (by decide)
theorem dZ_nat (z i : Nat) : dZ (z : Int) i = (wN z i : Int) := by
  unfold dZ wN
  rw [PW_nat]
  rfl

theorem two64 : (2 : Nat) ^ 64 = 18446744073709551616 := by decide

theorem wN_split (z i : Nat) : z / 2 ^ (64 * i) = wN z i + 18446744073709551616 * (z / 2 ^ (64 * (i + 1))) := by
  have h : z / 2 ^ (64 * (i + 1)) = z / 2 ^ (64 * i) / 18446744073709551616 := by
    rw [Nat.div_div_eq_div_mul, ← two64, ← Nat.pow_add, Nat.mul_succ]
  rw [h]
  unfold wN
  omega

/-- The bits that are kept. -/
theorem near_m (z i r : Nat) (hr : r < 64) (h : z / 2 ^ (64 * i + r) < 18446744073709551616) :
    IntKind.u64.wrap ((wN z (i + 1) : Int) * 2 ^ (64 - r)) = ((z / 2 ^ (64 * (i + 1)) * 2 ^ (64 - r) : Nat) : Int) ∧
    bits .or .u64 ((wN z i / 2 ^ r : Nat) : Int) ((z / 2 ^ (64 * (i + 1)) * 2 ^ (64 - r) : Nat) : Int) = ((z / 2 ^ (64 * i + r) : Nat) : Int) := by
  obtain ⟨S, hS⟩ : ∃ S : Nat, 2 ^ r = S := ⟨_, rfl⟩
  obtain ⟨T, hT⟩ : ∃ T : Nat, 2 ^ (64 - r) = T := ⟨_, rfl⟩
  have ST : S * T = 18446744073709551616 := by rw [← hS, ← hT, ← Nat.pow_add, show r + (64 - r) = 64 by omega]
  have S0 : 0 < S := by rw [← hS]; exact Nat.pow_pos (by decide)
  have T0 : 0 < T := by rw [← hT]; exact Nat.pow_pos (by decide)
  have e1 : z / 2 ^ (64 * i + r) = z / 2 ^ (64 * i) / S := by rw [Nat.pow_add, Nat.div_div_eq_div_mul, hS]
  have e2 : z / 2 ^ (64 * i) / S = wN z i / S + T * (z / 2 ^ (64 * (i + 1))) := by
    rw [wN_split z i, ← ST, Nat.mul_assoc, Nat.add_mul_div_left _ _ S0]
  have hw := wN_lt z i
  have hq : wN z i / S < T := by rw [Nat.div_lt_iff_lt_mul S0, Nat.mul_comm, ST]; exact hw
  rw [e1, e2] at h
  have hA : T * (z / 2 ^ (64 * (i + 1))) < 18446744073709551616 := Nat.lt_of_le_of_lt (Nat.le_add_left _ _) h
  have eW : wN z (i + 1) * T = z / 2 ^ (64 * (i + 1)) * T := by
    congr 1
    have hd : z / 2 ^ (64 * (i + 1)) < 18446744073709551616 := Nat.lt_of_le_of_lt (Nat.le_mul_of_pos_left _ T0) hA
    unfold wN
    exact Nat.mod_eq_of_lt hd
  have eT : (2 : Int) ^ (64 - r) = (T : Int) := by rw [← hT]; push_cast; rfl
  rw [hS, hT, eT, e1, e2, Nat.mul_comm (z / 2 ^ (64 * (i + 1)))]
  constructor
  · rw [← Int.natCast_mul, eW, Nat.mul_comm (z / _), IntKind.wrap_u64]; omega
  · rw [u64_or_nat _ _ (by omega) (by omega), Nat.or_comm]
    have := Nat.two_pow_add_eq_or_of_lt (i := 64 - r) (b := wN z i / S) (by rw [hT]; exact hq) (z / 2 ^ (64 * (i + 1)))
    rw [hT] at this
    rw [← this, Nat.add_comm]

theorem near_top (z n r : Nat) (h : z < 2 ^ (64 * (n + 1))) : wN z n / 2 ^ r = z / 2 ^ (64 * n + r) := by
  rw [Nat.pow_add, ← Nat.div_div_eq_div_mul]
  congr 1
  unfold wN
  refine Nat.mod_eq_of_lt ?_
  rw [Nat.div_lt_iff_lt_mul (Nat.pow_pos (by decide)), ← two64, ← Nat.pow_add, show 64 + 64 * n = 64 * (n + 1) by omega]
  exact h

/-- The bit behind, and those behind that. -/
theorem near_half (z j t : Nat) (ht : t < 64) : wN z j / 2 ^ t % 2 = z / 2 ^ (64 * j + t) % 2 := by
  rw [Nat.pow_add, ← Nat.div_div_eq_div_mul, wN_split z j]
  obtain ⟨T, hT⟩ : ∃ T : Nat, 2 ^ (63 - t) = T := ⟨_, rfl⟩
  have : (18446744073709551616 : Nat) = 2 ^ t * (2 * T) := by rw [← two64, ← hT, show 2 * 2 ^ (63 - t) = 2 ^ (63 - t + 1) by rw [Nat.pow_succ, Nat.mul_comm], ← Nat.pow_add]; congr 1; omega
  rw [this, Nat.mul_assoc (2 ^ t), Nat.add_mul_div_left _ _ (Nat.pow_pos (by decide)), Nat.mul_assoc 2, Nat.add_mul_mod_self_left]
theorem near_low (z j t : Nat) (ht : t < 64) : z % 2 ^ (64 * j + t) = z % 2 ^ (64 * j) + 2 ^ (64 * j) * (wN z j % 2 ^ t) := by
  rw [Nat.pow_add, Nat.mod_mul]
  congr 2
  rw [wN_split z j]
  have : (18446744073709551616 : Nat) = 2 ^ t * 2 ^ (64 - t) := by rw [← two64, ← Nat.pow_add]; congr 1; omega
  rw [this, Nat.mul_assoc, Nat.add_mul_mod_self_left]
theorem near_next (z j : Nat) : z % 2 ^ (64 * (j + 1)) = z % 2 ^ (64 * j) + 2 ^ (64 * j) * wN z j := by
  rw [Nat.mul_succ, Nat.pow_add, Nat.mod_mul]
  rfl

end Go.Proofs.Yteikihidblcljaa

/- The walk of acc.near. -/
namespace Go.Proofs.Yteikihidblcljaa
open Go.RowKit
set_option linter.unusedSimpArgs false
set_option linter.unusedVariables false

/-- A number of 68 words. -/
structure Fits (z : Nat) : Prop where
  out : ∃ n, n = 68 ∧ z < 2 ^ (64 * n)

theorem high_zero (z n : Nat) : ∀ d t, t + d = n → z < 2 ^ (64 * n) → (∀ j, t ≤ j → j < n → wN z j = 0) → z / 2 ^ (64 * t) = 0
  | 0, t, h, hz, _ => by
    obtain rfl : t = n := by omega
    exact Nat.div_eq_of_lt hz
  | d + 1, t, h, hz, hw => by
    have ih := high_zero z n d (t + 1) (by omega) hz (fun j a b => hw j (by omega) b)
    rw [wN_split z t, ih, hw t (Nat.le_refl _) (by omega)]

theorem near_bl (z t : Nat) (ht : t ≤ 67) (hz : Fits z) (hw : ∀ j, t < j → j < 68 → wN z j = 0) (h : t = 0 ∨ wN z t ≠ 0) : bl z = 64 * t + bl (wN z t) := by
  obtain ⟨n, hn, hz⟩ := hz.out
  have h1 := high_zero z n (67 - t) (t + 1) (by omega) hz (fun j a b => hw j (by omega) (by omega))
  have h2 : z / 2 ^ (64 * t) = wN z t := by rw [wN_split z t, h1]; omega
  by_cases h0 : wN z t = 0
  · obtain rfl : t = 0 := by rcases h with h | h; exact h; exact absurd h0 h
    rw [h0] at h2 ⊢
    simp at h2
    rw [h2]; rfl
  · rw [bl_div (d := z) (j := 64 * t) (by rw [h2]; exact h0), h2]; omega

theorem word_box {w : World} {b : Nat} {z i : Nat} {t : TypeId} (h : w.heap[b]? = some (.cells (ws68 (z : Int)) t (0, 0))) (hi : i < 68) : w.cell? ⟨b, i, none⟩ = some (.int .u64 (wN z i : Int)) := by
  rw [cell_of_row _ _ i _ _ _ h, ws68_get _ i hi, dZ_nat]

theorem shr_int (x r : Nat) : (x : Int) / 2 ^ r = ((x / 2 ^ r : Nat) : Int) := by push_cast; rfl
theorem and_one (x : Nat) (h : x < 18446744073709551616) : bits .and .u64 (x : Int) 1 = ((x % 2 : Nat) : Int) := by
  have := u64_and_nat x 1 h (by decide)
  rw [show ((1 : Nat) : Int) = 1 from rfl] at this
  rw [this, Nat.and_one_is_mod]
theorem mask_low (x s : Nat) (hx : x < 18446744073709551616) (hs : s < 64) : bits .and .u64 (x : Int) (IntKind.u64.wrap (IntKind.u64.wrap ((2 : Int) ^ s) - 1)) = ((x % 2 ^ s : Nat) : Int) := by
  have h1 : 2 ^ s ≤ 2 ^ 63 := Nat.pow_le_pow_right (by decide) (by omega)
  have h0 : 0 < 2 ^ s := Nat.pow_pos (by decide)
  have h2 : (2 : Nat) ^ 63 = 9223372036854775808 := by decide
  have e : (2 : Int) ^ s = ((2 ^ s : Nat) : Int) := by push_cast; rfl
  have e2 : IntKind.u64.wrap (IntKind.u64.wrap ((2 : Int) ^ s) - 1) = ((2 ^ s - 1 : Nat) : Int) := by
    rw [e]
    generalize 2 ^ s = S at *
    simp only [IntKind.wrap_u64]
    omega
  rw [e2, u64_and_nat _ _ hx (by omega), Nat.and_two_pow_sub_one_eq_mod]

theorem slice_ws68 (b j : Nat) (hj : j ≤ 67) (w : World) : (Instr.sliceAt 94 (.pointer (some ⟨b, 0, none⟩)) none (some (.int .i64 (j : Int))) none).run Try.prog w = .ok (.slice (some ⟨b, 0, none⟩) j 68) w := by
  have ha : Try.prog.arrayLen 94 = 68 := by kernel_rfl
  have he : Try.prog.elem 94 = 39 := by kernel_rfl
  have hu : Try.prog.underlying 94 = some (.array (Try.prog.arrayLen 94) (Try.prog.elem 94)) := by rw [ha, he]; exact Try.underlying94
  have h := run_sliceAt_array_h w 94 ⟨b, 0, none⟩ hu .i64 (j : Int) (by omega) (by rw [ha]; omega)
  rw [h, ha, he, Try.sizeOf39 w]
  simp only [Result.andThen_ok, slicedAt, Nat.zero_mul, Nat.sub_zero, Int.toNat_natCast]
  rfl

theorem nz_add (a b c : Nat) (hc : 0 < c) : nz (a + c * b) = (nz a || nz b) := by
  by_cases h1 : a = 0
  · by_cases h2 : b = 0
    · rw [h1, h2]; simp [nz]
    · have : a + c * b ≠ 0 := by have := Nat.mul_pos hc (Nat.pos_of_ne_zero h2); omega
      rw [nz_t this, nz_t h2, Bool.or_true]
  · have : a + c * b ≠ 0 := by omega
    rw [nz_t this, nz_t h1]; rfl
theorem rh_bits (z K : Nat) (more : Bool) : rh z K more = z / 2 ^ K + (decide (z / 2 ^ (K - 1) % 2 = 1) && ((more || nz (z % 2 ^ (K - 1))) || decide (z / 2 ^ K % 2 = 1))).toNat := by
  unfold rh
  congr 1
  by_cases h : z / 2 ^ (K - 1) % 2 = 1 ∧ (z % 2 ^ (K - 1) ≠ 0 ∨ more = true ∨ z / 2 ^ K % 2 = 1)
  · rw [if_pos h]
    have : (decide (z / 2 ^ (K - 1) % 2 = 1) && ((more || nz (z % 2 ^ (K - 1))) || decide (z / 2 ^ K % 2 = 1))) = true := by
      simp [nz]
      exact ⟨h.1, by rcases h.2 with h | h | h <;> simp [h]⟩
    rw [this]; rfl
  · rw [if_neg h]
    have : (decide (z / 2 ^ (K - 1) % 2 = 1) && ((more || nz (z % 2 ^ (K - 1))) || decide (z / 2 ^ K % 2 = 1))) = false := by
      rw [Bool.eq_false_iff]
      intro hc
      apply h
      simp [nz] at hc
      refine ⟨hc.1, ?_⟩
      rcases hc.2 with (h | h) | h
      · exact .inr (.inl h)
      · exact .inl h
      · exact .inr (.inr h)
    rw [this]; rfl

theorem near_keep (z : Nat) : z / 2 ^ nearK z < 9007199254740992 := by
  rw [Nat.div_lt_iff_lt_mul (Nat.pow_pos (by decide)), show 9007199254740992 = 2 ^ 53 by decide, ← Nat.pow_add]
  exact Nat.lt_of_lt_of_le (bl_lt z) (Nat.pow_le_pow_right (by decide) (by unfold nearK; omega))

set_option maxHeartbeats 800000 in
set_option maxRecDepth 100000 in
theorem accNear_any (z : Nat) (more : Bool) (hz : Fits z) (w : World) :
    Calls Try.prog 74 #[.agg (ws68 (z : Int)), .bool more] w fun e w' => e = .returned (.float .f64 (nearZ false z more)) ∧ Below w.heap.size w w' := by
  have HZ := Hd.mk hz
  clear hz
  go_enter Try.func74, Try.ntmps74
  go_upto_block 0 with fail
  have HB : Hd (Below w.heap.size w (w.alloc (.cells (ws68 (z : Int)) 94))) := ⟨(Below.refl _ _).alloc (Nat.le_refl _) _⟩
  have HX : Hd ((w.alloc (.cells (ws68 (z : Int)) 94)).heap[w.heap.size]? = some (.cells (ws68 (z : Int)) 94 (0, 0))) := ⟨heap_alloc_new w _⟩
  generalize (w.alloc (.cells (ws68 (z : Int)) 94)) = w1 at *
  obtain ⟨bx, hbx⟩ : ∃ bx, w.heap.size = bx := ⟨_, rfl⟩
  rw [hbx] at HX HB ⊢
  have HBX := Hd.mk hbx
  clear hbx
  go_cut [5] (fun tv wx => wx = w1 ∧ ∃ t : Nat, t ≤ 67 ∧ tv = .int .i64 t ∧ Hd (bl z = 64 * t + bl (wN z t)))
  case first =>
    go_wp2_with fail
    go_loop [5] (fun tv => ∃ t : Nat, t ≤ 67 ∧ tv = .int .i64 t ∧ Hd (∀ j, t < j → j < 68 → wN z j = 0)) (fun tv => (intOf tv).toNat)
    case atStart => exact ⟨67, Nat.le_refl _, rfl, ⟨fun j a b => by omega⟩⟩
    case round =>
      obtain ⟨t, ht, rfl, HW⟩ := hrel
      have hc := word_box (i := t) HX.out (by omega)
      by_cases h0 : t = 0
      · subst h0
        have HL := Hd.mk (near_bl z 0 ht HZ.out HW.out (.inl rfl))
        go_wp2_with fail
        go_meet
        exact ⟨rfl, 0, ht, rfl, HL⟩
      · have h1 : (0 : Int) < t := by omega
        have h2 : (t : Int) ≤ 67 := by omega
        by_cases hw : wN z t = 0
        · have hw' : ((wN z t : Int) == 0) = true := by rw [beq_iff_eq]; omega
          have HW2 : Hd (∀ j, t - 1 < j → j < 68 → wN z j = 0) := ⟨fun j a b => by
            by_cases e : j = t
            · rw [e]; exact hw
            · exact HW.out j (by omega) b⟩
          have e1 : Hd ((t : Int) - 1 = ((t - 1 : Nat) : Int)) := ⟨by omega⟩
          clear hw
          go_wp2_with fail
          exact ⟨⟨t - 1, by omega, by rw [e1.out], HW2⟩, by simp [intOf]; omega⟩
        · have HL := Hd.mk (near_bl z t ht HZ.out HW.out (.inr hw))
          have hw' : ((wN z t : Int) == 0) = false := by rw [beq_eq_false_iff_ne]; omega
          clear hw
          go_wp2_with fail
          go_meet
          exact ⟨rfl, t, ht, rfl, HL⟩
  case rest =>
    obtain ⟨rfl, t, ht, rfl, HL⟩ := hcut
    have hc := word_box (i := t) HX.out (by omega)
    have HLe := Hd.mk (len64_any (wN z t) (wN_lt z t))
    have l64 : bl (wN z t) ≤ 64 := bl_le (by have := wN_lt z t; exact this)
    have hKb : nearK z ≤ 4299 := by
      have : bl z ≤ 64 * 68 := by obtain ⟨n, hn, hz⟩ := HZ.out.out; rw [← hn]; exact bl_le hz
      unfold nearK; omega
    have hKa : 1074 ≤ nearK z := by unfold nearK; omega
    have hk : max (64 * (t : Int) + bl (wN z t) - 53) 1074 = (nearK z : Int) := by
      have := HL.out
      unfold nearK; omega
    have HPl := Hd.mk (near_plain z more)
    have HR := Hd.mk (near_rnd z more).2.1
    have HKe := Hd.mk (near_keep z)
    obtain ⟨K, hK⟩ : ∃ K, nearK z = K := ⟨_, rfl⟩
    rw [hK] at hKa hKb hk HPl HR HKe
    obtain ⟨i, r, hi, hr, eK⟩ : ∃ i r, i ≤ 67 ∧ r < 64 ∧ K = 64 * i + r := ⟨K / 64, K % 64, by omega, by omega, by omega⟩
    obtain ⟨j, s, hj, hs, eJ⟩ : ∃ j s, j ≤ 67 ∧ s < 64 ∧ K - 1 = 64 * j + s := ⟨(K - 1) / 64, (K - 1) % 64, by omega, by omega, by omega⟩
    have f1 : (K : Int) / 64 = i := by omega
    have f2 : (K : Int) % 64 = r := by omega
    have f3 : ((K : Int) - 1) / 64 = j := by omega
    have f4 : ((K : Int) - 1) % 64 = s := by omega
    have ci := word_box (i := i) HX.out (by omega)
    have cj := word_box (i := j) HX.out (by omega)
    have i0 : (0 : Int) ≤ i := by omega
    have i1 : (i : Int) ≤ 67 := by omega
    have r0 : (0 : Int) ≤ r := by omega
    have r1 : (r : Int) ≤ 63 := by omega
    have s0 : (0 : Int) ≤ s := by omega
    have s1 : (s : Int) ≤ 63 := by omega
    have k0 : (1074 : Int) ≤ K := by omega
    have k1 : (K : Int) ≤ 4299 := by omega
    have t0 : (t : Int) ≤ 67 := by omega
    have l65 : (bl (wN z t) : Int) ≤ 64 := by omega
    have EK := Hd.mk eK
    have EJ := Hd.mk eJ
    clear eK eJ hK l64 hKa hKb
    go_upto_if 44 with (first | (go_at_call 115; refine (HLe.out _).mono ?_; rintro e w' ⟨rfl, rfl⟩))
    have i2 : (i : Int) + 1 ≤ 68 := by omega
    obtain ⟨M, hM⟩ : ∃ M, z / 2 ^ K = M := ⟨_, rfl⟩
    rw [hM] at HKe
    have HM := Hd.mk hM
    clear hM
    go_cut [9] (fun mv wx => mv = .int .u64 (M : Int) ∧ wx = wc)
    case first =>
      by_cases h67 : i < 67
      · have hi2 : (i : Int) + 1 < 68 := by omega
        have c2 := word_box (i := i + 1) HX.out (by omega)
        have hlt : z / 2 ^ (64 * i + r) < 18446744073709551616 := by have := HKe.out; rw [← EK.out, HM.out]; omega
        obtain ⟨m1, m2⟩ := near_m z i r hr hlt
        have m3 : bits .or .u64 ((wN z i : Int) / 2 ^ r) ((z / 2 ^ (64 * (i + 1)) * 2 ^ (64 - r) : Nat) : Int) = (M : Int) := by rw [shr_int, m2, ← EK.out, HM.out]
        generalize z / 2 ^ (64 * (i + 1)) * 2 ^ (64 - r) = M1 at *
        clear m2 hlt
        go_wp2_with fail
        go_meet
        exact ⟨rfl, rfl⟩
      · have h67' : i = 67 := by omega
        have hi2 : ¬ (i : Int) + 1 < 68 := by omega
        have m3 : Hd ((wN z i : Int) / 2 ^ r = (M : Int)) := ⟨by
          have := near_top z i r (by obtain ⟨n, hn, hz⟩ := HZ.out.out; rw [show i + 1 = n by omega]; exact hz)
          rw [shr_int, this, ← EK.out, HM.out]⟩
        have hi3 : (68 : Int) ≤ (i : Int) + 1 := by omega
        clear h67 h67' hi2 hi
        go_wp2_with fail
        go_meet
        exact ⟨by rw [← m3.out], rfl⟩
    case rest =>
      obtain ⟨rfl, rfl⟩ := hcut
      have fh : bits .and .u64 ((wN z j : Int) / 2 ^ s) 1 = ((z / 2 ^ (K - 1) % 2 : Nat) : Int) := by
        rw [shr_int, and_one _ (Nat.lt_of_le_of_lt (Nat.div_le_self _ _) (wN_lt z j)), near_half z j s hs, EJ.out]
      obtain ⟨hb, hhb⟩ : ∃ hb, z / 2 ^ (K - 1) % 2 = hb := ⟨_, rfl⟩
      rw [hhb] at fh
      have HHB := Hd.mk hhb
      clear hhb ci f1 f2 hc HL HLe hk i0 i1 i2 r0 r1 t0 l65
      go_upto_region 10 with fail
      go_cut [11] (fun rv wx => (∃ b0 : Bool, rv = .bool b0 ∧ Hd (b0 = (more || nz (wN z j % 2 ^ s)))) ∧ ∃ n, wx = wc.drewN n)
      case first =>
        cases more
        · go_quiet (fail)
          go_wp2_with fail
          go_meet
          refine ⟨⟨_, rfl, ⟨?_⟩⟩, _, rfl⟩
          rw [mask_low _ _ (wN_lt z j) hs, Bool.false_or]
          unfold nz bne
          generalize wN z j % 2 ^ s = q
          rw [Bool.eq_iff_iff]; simp
        · go_quiet (fail)
          go_wp2_with fail
          go_meet
          exact ⟨⟨true, rfl, ⟨rfl⟩⟩, _, rfl⟩
      case rest =>
        obtain ⟨⟨b0, rfl, HB0⟩, n, rfl⟩ := hcut
        have j0 : (0 : Int) ≤ j := by omega
        have j1 : (j : Int) ≤ 67 := by omega
        have hsl := slice_ws68 bx j hj
        have HXn : Hd (∀ i, i < 68 → (wc.drewN n).cell? ⟨bx, i, none⟩ = some (.int .u64 (wN z i : Int))) := ⟨fun i hi => word_box HX.out hi⟩
        have HBn := Hd.mk (below_drewN HB.out n)
        clear HX HB cj
        generalize wc.drewN n = w2 at *
        go_upto_block 2 with fail
        go_cut [11, 13] from 80 to 94 (fun rv _ wx => wx = w2 ∧ ∃ b1 : Bool, rv = .bool b1 ∧ Hd (b1 = (more || nz (z % 2 ^ (K - 1)))))
        case first =>
          go_wp2_with fail
          go_loop [11, 85] (fun rv iv => ∃ (i' : Nat) (b' : Bool), i' ≤ j ∧ iv = .int .i64 i' ∧ rv = .bool b' ∧ Hd (b' = (b0 || nz (z % 2 ^ (64 * i'))))) (fun _ iv => j - (intOf iv).toNat)
          case atStart => exact ⟨0, b0, Nat.zero_le _, rfl, rfl, ⟨by rw [Nat.mul_zero, Nat.pow_zero, Nat.mod_one]; simp [nz]⟩⟩
          case round =>
            obtain ⟨i', b', hi', rfl, rfl, HB'⟩ := hrel
            by_cases hlt : i' < j
            · have hc := HXn.out i' (by omega)
              have hlt' : (i' : Int) < j := by omega
              have HN : Hd ((b0 || nz (z % 2 ^ (64 * (i' + 1)))) = (b' || nz (wN z i'))) := ⟨by
                rw [HB'.out, near_next, nz_add _ _ _ (Nat.pow_pos (by decide)), Bool.or_assoc]⟩
              cases b'
              · go_wp2_with fail
                refine ⟨⟨i' + 1, _, by omega, by go_num, rfl, ⟨?_⟩⟩, by simp [intOf]; omega⟩
                rw [HN.out, Bool.false_or]
                unfold nz bne
                generalize wN z i' = q
                rw [Bool.eq_iff_iff]; simp
              · go_wp2_with fail
                refine ⟨⟨i' + 1, true, by omega, by go_num, rfl, ⟨?_⟩⟩, by simp [intOf]; omega⟩
                rw [HN.out]; rfl
            · have hge : (j : Int) ≤ i' := by omega
              have he : Hd (i' = j) := ⟨by omega⟩
              clear hlt
              go_wp2_with fail
              go_meet
              refine ⟨rfl, b', rfl, ⟨?_⟩⟩
              rw [HB'.out, HB0.out, he.out, EJ.out, near_low z j s hs, nz_add _ _ _ (Nat.pow_pos (by decide)), Bool.or_assoc, Bool.or_comm (nz (wN z j % 2 ^ s))]
        case rest =>
          obtain ⟨rfl, b1, rfl, HB1⟩ := hcut
          have fo : bits .and .u64 (M : Int) 1 = ((M % 2 : Nat) : Int) := and_one _ (by have := HKe.out; omega)
          have HRH : Hd (rh z K more = M + (((hb : Int) == 1) && (b1 || (((M % 2 : Nat) : Int) == 1))).toNat) := ⟨by
            have e1 : ∀ q : Nat, ((q : Int) == 1) = decide (q = 1) := fun q => by rw [Bool.eq_iff_iff]; simp; omega
            rw [rh_bits, HB1.out, e1, e1, ← HHB.out, HM.out]⟩
          generalize (((M % 2 : Nat) : Int)) = od at *
          obtain ⟨odd, hodd⟩ : ∃ o : Bool, (od == 1) = o := ⟨_, rfl⟩
          rw [hodd] at HRH
          generalize ((hb : Int) == 1) = half at *
          have M0 : (0 : Int) ≤ (M : Int) := by omega
          have M1 : (M : Int) ≤ 9007199254740992 := by have := HKe.out; omega
          clear HB1
          go_upto_region 16 with fail
          go_cut [103] from 95 to 102 (fun v wx => wx = wc ∧ v = .bool (half && (b1 || odd)))
          case first =>
            clear HRH
            cases half <;> cases b1 <;> cases odd
            all_goals
              go_wp2_with fail
              go_meet
              exact ⟨rfl, rfl⟩
          case rest =>
            obtain ⟨rfl, rfl⟩ := hcut
            generalize (half && (b1 || odd)) = upb at *
            have HKK := HPl
            have HBnd := HR
            rw [HRH.out] at HKK HBnd
            clear HRH HR HPl
            cases upb
            · have HLd := Hd.mk (ldexp_any M ((K : Int) - 2148) (by have := HKe.out; omega) (by omega) (by omega))
              go_wp2_with fail
              refine (HLd.out _).mono ?_; rintro e w' ⟨rfl, rfl⟩
              go_wp2_with fail
              go_ret
              exact ⟨by have := HKK.out; rw [← this]; rfl, by rw [HBX.out]; exact HBn.out⟩
            · obtain ⟨M', hM'⟩ : ∃ M', M' = M + 1 := ⟨_, rfl⟩
              have M2 : (M : Int) + 1 = (M' : Int) := by omega
              have HLd := Hd.mk (ldexp_any M' ((K : Int) - 2148) (by have := HKe.out; omega) (by omega) (by omega))
              have HM2 := Hd.mk hM'
              clear hM'
              go_wp2_with fail
              refine (HLd.out _).mono ?_; rintro e w' ⟨rfl, rfl⟩
              go_wp2_with fail
              go_ret
              exact ⟨by have := HKK.out; rw [← this, HM2.out]; rfl, by rw [HBX.out]; exact HBn.out⟩

end Go.Proofs.Yteikihidblcljaa

/- bits.Div64, any; plain: division word by word. -/
namespace Go.Proofs.Yteikihidblcljaa
open Go.RowKit
set_option linter.unusedSimpArgs false
set_option linter.unusedVariables false

set_option maxHeartbeats 800000 in
set_option maxRecDepth 100000 in
theorem div64_zero (lo y : Nat) (hy : 0 < y) (h1 : lo < 18446744073709551616) (h2 : y < 18446744073709551616) (w : World) :
    Calls Try.prog 73 #[.int .u64 0, .int .u64 lo, .int .u64 y] w fun e w' => e = .returned (.tuple #[.int .u64 ((lo / y : Nat) : Int), .int .u64 ((lo % y : Nat) : Int)]) ∧ ∃ n, w' = w.drewN n := by
  have t1 : ((y : Int) == 0) = false := by rw [beq_eq_false_iff_ne]; omega
  have t3 : decide ((y : Int) ≤ 0) = false := by simp; omega
  have y1 : (1 : Int) ≤ y := by omega
  have d1 : IntKind.u64.wrap ((lo : Int) / (y : Int)) = ((lo / y : Nat) : Int) := by
    rw [show (lo : Int) / (y : Int) = ((lo / y : Nat) : Int) from rfl]
    have hq := Nat.div_le_self lo y
    generalize lo / y = q at *
    rw [IntKind.wrap_u64]; omega
  have d2 : (lo : Int) % (y : Int) = ((lo % y : Nat) : Int) := rfl
  generalize lo / y = Q at *
  generalize lo % y = R at *
  have D2 := Hd.mk d2
  clear hy h1 h2 d2
  go_enter Try.func73, Try.ntmps73
  go_wp2_with fail
  go_quiet (fail)
  go_wp2_with fail
  go_ret2
  exact ⟨ret2_u64 rfl D2.out, _, rfl⟩

theorem div64_any (hi lo y : Nat) (hy : hi < y) (h1 : lo < 18446744073709551616) (h2 : y < 18446744073709551616) (w : World) :
    Calls Try.prog 73 #[.int .u64 hi, .int .u64 lo, .int .u64 y] w fun e w' => e = .returned (.tuple #[.int .u64 (((hi * W64 + lo) / y : Nat) : Int), .int .u64 (((hi * W64 + lo) % y : Nat) : Int)]) ∧ ∃ n, w' = w.drewN n := by
  have eW : W64 = 18446744073709551616 := by unfold W64; rfl
  rw [eW]
  by_cases h0 : hi = 0
  · subst h0
    have := div64_zero lo y hy h1 h2 w
    rwa [Nat.zero_mul, Nat.zero_add]
  · exact (div64_far hi lo y (by omega) hy h1 h2 w).mono fun e w' h => ⟨h.1, 0, h.2⟩

/-- What is left of the words from i on. -/
def remW (z n i : Nat) : Nat := z / 2 ^ (64 * i) % n
theorem remW_lt (z n i : Nat) (hn : 0 < n) : remW z n i < n := Nat.mod_lt _ hn
theorem div_word (z n i : Nat) (hn : 0 < n) : (remW z n (i + 1) * W64 + wN z i) / n = wN (z / n) i ∧ (remW z n (i + 1) * W64 + wN z i) % n = remW z n i := by
  have eW : W64 = 18446744073709551616 := by unfold W64; rfl
  have hs := wN_split z i
  have hw := wN_lt z i
  have hr := remW_lt z n (i + 1) hn
  have hd : z / n / 2 ^ (64 * i) = z / 2 ^ (64 * i) / n := by rw [Nat.div_div_eq_div_mul, Nat.div_div_eq_div_mul, Nat.mul_comm]
  have hH : n * (z / 2 ^ (64 * (i + 1)) / n) + remW z n (i + 1) = z / 2 ^ (64 * (i + 1)) := Nat.div_add_mod _ _
  have e1 : wN (z / n) i = z / 2 ^ (64 * i) / n % W64 := by rw [eW]; unfold wN; rw [hd]
  have e2 : remW z n i = z / 2 ^ (64 * i) % n := rfl
  rw [← eW] at hs hw
  rw [e1, e2, hs]
  generalize remW z n (i + 1) = r at *
  generalize wN z i = w at *
  generalize z / 2 ^ (64 * (i + 1)) = H at *
  generalize H / n = q at *
  have e3 : w + W64 * H = r * W64 + w + n * (W64 * q) := by
    rw [← hH, Nat.mul_add, Nat.mul_comm W64 r, Nat.mul_left_comm W64 n q]; omega
  have hlt : (r * W64 + w) / n < W64 := by
    rw [Nat.div_lt_iff_lt_mul hn]
    have h5 : (r + 1) * W64 ≤ n * W64 := Nat.mul_le_mul_right _ hr
    rw [Nat.add_mul, Nat.one_mul] at h5
    rw [Nat.mul_comm W64 n]; omega
  rw [e3, Nat.add_mul_div_left _ _ hn, Nat.add_mul_mod_self_left, Nat.add_mul_mod_self_left]
  exact ⟨(Nat.mod_eq_of_lt hlt).symm, rfl⟩

end Go.Proofs.Yteikihidblcljaa

/- The walks of Acc's Over and Value. -/
namespace Go.Proofs.Yteikihidblcljaa
open Go.RowKit
set_option linter.unusedSimpArgs false
set_option linter.unusedVariables false

@[go_sem] theorem unary_fnegK (x : Nat) : Op.unary .neg (.float .f64 x) = pure (.float .f64 (Op.negFloat .f64 x)) := rfl

theorem near_neg (z : Nat) (more : Bool) : Op.negFloat .f64 (nearZ false z more) = nearZ true z more := by
  have hb : ∀ u, u ≤ 9218868437227405312 → Op.negFloat .f64 u = u + 9223372036854775808 := fun u hu => by
    have := nat_join 63 9223372036854775808 u (by decide) (by omega)
    have e : Op.negFloat .f64 u = u ^^^ 9223372036854775808 := rfl
    rw [e]
    have h2 := xor_sign u ⟨by omega⟩
    have h3 := u64_xor_nat u 9223372036854775808 (by omega) (by decide)
    rw [show ((9223372036854775808 : Nat) : Int) = 9223372036854775808 from rfl] at h3
    rw [h3] at h2
    unfold flip64 at h2
    rw [ng_small u (by omega), mg_small u (by omega), if_neg (by decide)] at h2
    omega
  unfold nearZ madeN
  simp only [Bool.false_eq_true, if_false, if_true]
  exact hb _ (Nat.min_le_right _ _)

/-- What Over tells. -/
def overA (z : Int) (up dn : Bool) (n : Nat) : Nat :=
  if up && dn then 9221120237041090561 else if up then 9218868437227405312 else if dn then 18442240474082181120 else nearZ (decide (z < 0)) (z.natAbs / n) (nz (z.natAbs % n))

set_option maxHeartbeats 800000 in
set_option maxRecDepth 100000 in
theorem over_low (b : Nat) (n : Int) (hn : n < 1) (w : World) :
    Calls Try.prog 20 #[.pointer (some ⟨b, 0, none⟩), .int .i64 n] w fun e w' => e = .returned (.tuple #[.float .f64 0, .bool false]) ∧ w = w' := by
  go_enter Try.func20, Try.ntmps20
  go_wp2_with fail
  go_ret2
  exact ⟨rfl, rfl⟩

set_option maxHeartbeats 800000 in
set_option maxRecDepth 100000 in
theorem over_inf (b : Nat) (z : Int) (up dn : Bool) (n : Nat) (hn : 1 ≤ n) (hf : (up || dn) = true) (w : World) (h : AccIs w b z up dn) :
    Calls Try.prog 20 #[.pointer (some ⟨b, 0, none⟩), .int .i64 n] w fun e w' => e = .returned (.tuple #[.float .f64 (overA z up dn n), .bool true]) ∧ w = w' := by
  have c1 := h.up
  have c2 := h.dn
  have hn' : ¬ (n : Int) < 1 := by omega
  clear h hn
  cases up <;> cases dn
  · cases hf
  all_goals
    unfold overA
    go_enter Try.func20, Try.ntmps20
    go_wp2_with (first | (go_at_call 71; first | (with_reducible refine (minf_any _).mono ?_; rintro e w' ⟨rfl, rfl⟩) | (refine (minf_neg _).mono ?_; rintro e w' ⟨rfl, rfl⟩)) | (go_at_call 70; refine (mnan_any _).mono ?_; rintro e w' ⟨rfl, rfl⟩))
    go_ret2
    exact ⟨rfl, rfl⟩

end Go.Proofs.Yteikihidblcljaa

/- The walk of Acc's Over, of a number; Value. -/
namespace Go.Proofs.Yteikihidblcljaa
open Go.RowKit
set_option linter.unusedSimpArgs false
set_option linter.unusedVariables false

theorem fits_aux (z : Int) (k n : Nat) (a : -(9223372036854775808 * PW k) ≤ z) (b : z < 9223372036854775808 * PW k) : z.natAbs / n < 2 ^ (64 * (k + 1)) := by
  have hd : z.natAbs / n ≤ z.natAbs := Nat.div_le_self _ _
  have hp : PW k = ((2 ^ (64 * k) : Nat) : Int) := PW_nat k
  have hq : 2 ^ (64 * (k + 1)) = 2 ^ (64 * k) * 18446744073709551616 := by rw [Nat.mul_succ, Nat.pow_add]
  rw [hq]
  rw [hp] at a b
  have p0 : 0 < 2 ^ (64 * k) := Nat.pow_pos (by decide)
  generalize 2 ^ (64 * k) = P at *
  omega
theorem AccB_fits (z : Int) (h : AccB z) (n : Nat) : Fits (z.natAbs / n) := by
  obtain ⟨a, b⟩ := h
  obtain ⟨k, hk⟩ : ∃ k, 67 = k := ⟨_, rfl⟩
  rw [hk] at a b
  exact ⟨k + 1, by omega, fits_aux z k n a b⟩

theorem natAbs_ws (z : Int) : (if z < 0 then -z else z) = ((z.natAbs : Nat) : Int) := by split <;> omega

/-- The words of a quotient from i on, those of what is divided ahead of it. -/
def quoF (A n i m : Nat) : Value := if i ≤ m then .int .u64 (wN (A / n) m : Int) else .int .u64 (wN A m : Int)

set_option maxHeartbeats 3200000 in
set_option maxRecDepth 100000 in
theorem over_num (b : Nat) (z : Int) (n : Nat) (hn : 1 ≤ n) (hn2 : n ≤ 9223372036854775807) (w : World) (h : AccIs w b z false false) (hb : AccB z) :
    Calls Try.prog 20 #[.pointer (some ⟨b, 0, none⟩), .int .i64 n] w fun e w' => e = .returned (.tuple #[.float .f64 (overA z false false n), .bool true]) ∧ Below w.heap.size w w' := by
  have HI : Hd (∀ z, (Try.prog.info? 94).map (·.size) = some (ws68 z).size) := ⟨fun z => by rw [ws68_size]; exact info_ws68⟩
  have hs68 : Hd (Try.zeroCells94.size = 68) := ⟨by kernel_rfl⟩
  have c1 := h.up
  have c2 := h.dn
  have H := Hd.mk h
  have HW := Hd.mk (AccIs.words h)
  have HBl : Hd (∀ w', Below w.heap.size w w' → Calls Try.prog 72 #[.pointer (some ⟨b, 0, none⟩)] w' fun e w'' => e = .returned (.bool (decide (z < 0))) ∧ w' = w'') := ⟨fun w' hw => below_any b z false false w' (h.below hw) hb⟩
  have HT := Hd.mk (turned_any z)
  have HF := Hd.mk (AccB_fits z hb n)
  have HF1 := Hd.mk (AccB_fits z hb 1)
  rw [Nat.div_one] at HF1
  have HO : Hd (overA z false false n = nearZ (decide (z < 0)) (z.natAbs / n) (nz (z.natAbs % n))) := ⟨by unfold overA; rw [if_neg (by decide), if_neg (by decide), if_neg (by decide)]⟩
  rw [HO.out]
  have HA := Hd.mk (natAbs_ws z)
  have n1 : (1 : Int) ≤ n := by omega
  have n2 : (n : Int) ≤ 9223372036854775807 := by omega
  have n3 : ¬ (n : Int) < 1 := by omega
  have HN := Hd.mk hn
  obtain ⟨A, hA⟩ : ∃ A, z.natAbs = A := ⟨_, rfl⟩
  rw [hA] at HF HF1 HA ⊢
  obtain ⟨neg, hneg⟩ : ∃ s : Bool, decide (z < 0) = s := ⟨_, rfl⟩
  rw [hneg] at HBl ⊢
  have HNeg := Hd.mk hneg
  clear h hb hn hn2 hA hneg HO
  go_enter Try.func20, Try.ntmps20
  go_upto_if 42 with (first
    | (go_at_call 72; refine (HBl.out _ ?_).mono ?_; first | exact below_setRow ((Below.refl _ _).alloc (Nat.le_refl _) _) (Nat.le_refl _) _; rintro e w' ⟨rfl, rfl⟩)
    | (refine wpList_load_cells rfl 94 (.tmp 39) rfl b rfl (ws68 z) _ HW.out Try.underlying94 rfl (HI.out z) ?_)
    | (refine wpList_store_cells rfl 94 (.tmp 6) (.tmp 40) rfl rfl w.heap.size rfl (ws68 z) rfl 94 Try.zeroCells94 ?c1 ?c2 (HI.out z) (ws68_one _) ?_))
  case c1 => exact (Array.getElem?_eq_some_iff.1 (heap_alloc_new w (.cells Try.zeroCells94 94))).2
  case c2 => rw [ws68_size]; exact Nat.le_refl _
  have hnil : ∀ y, (ws68 y).toList ++ List.drop (ws68 y).size Try.zeroCells94.toList = (ws68 y).toList := fun y => by
    rw [List.drop_eq_nil_of_le (by rw [ws68_size, Array.length_toList, hs68.out]; exact Nat.le_refl _), List.append_nil]
  have HB : Hd (Below w.heap.size w ((w.alloc (.cells Try.zeroCells94 94)).setRow w.heap.size (ws68 z))) := ⟨below_setRow ((Below.refl _ _).alloc (Nat.le_refl _) _) (Nat.le_refl _) _⟩
  have HX : Hd (((w.alloc (.cells Try.zeroCells94 94)).setRow w.heap.size (ws68 z)).heap[w.heap.size]? = some (.cells (ws68 z) 94 (0, 0))) := ⟨setRow_heap _ _ _ _ _ _ (heap_alloc_new w _)⟩
  rw [hnil, Array.toArray_toList]
  clear hnil
  generalize (w.alloc (.cells Try.zeroCells94 94)).setRow w.heap.size (ws68 z) = w1 at *
  obtain ⟨bq, hbq⟩ : ∃ bq, w.heap.size = bq := ⟨_, rfl⟩
  rw [hbq] at HX HB HBl ⊢
  have HBQ := Hd.mk hbq
  clear hbq c1 c2 HW
  go_cut [] (fun wx => wx.heap[bq]? = some (.cells (ws68 (A : Int)) 94 (0, 0)) ∧ Below bq w wx)
  case first =>
    cases neg
    · have hz : z = (A : Int) := by
        have := HA.out; rw [if_neg (of_decide_eq_false HNeg.out)] at this; exact this
      go_wp2_with fail
      go_meet
      exact ⟨by rw [← hz]; exact HX.out, HB.out⟩
    · have hz : Hd (-z = (A : Int)) := ⟨by
        have := HA.out; rw [if_pos (of_decide_eq_true HNeg.out)] at this; exact this⟩
      rw [hz.out] at HT
      have HW2 : Hd (∀ j v, (ws68 z)[j]? = some v → w1.cell? ⟨bq, j, none⟩ = some v) := ⟨fun j v hv => by rw [cell_of_row _ _ j _ _ _ HX.out]; exact hv⟩
      go_wp2_with (refine wpList_load_cells rfl 94 (.tmp 6) rfl bq rfl (ws68 z) _ HW2.out Try.underlying94 rfl (HI.out z) ?_)
      refine (HT.out _).mono ?_; rintro e w2 ⟨rfl, hb⟩
      have hlt : bq < w1.heap.size := by
        have := HX.out
        exact (Array.getElem?_eq_some_iff.1 this).1
      have HX2 : Hd (w2.heap[bq]? = some (.cells (ws68 z) 94 (0, 0))) := ⟨by rw [hb.block bq hlt]; exact HX.out⟩
      have HB2 := Hd.mk (HB.out.trans (hb.mono (Nat.le_of_lt hlt)))
      clear hb
      go_wp2_with (refine wpList_store_cells rfl 94 (.tmp 6) (.tmp 44) rfl rfl bq rfl (ws68 (A : Int)) rfl 94 (ws68 z) HX2.out ?_ (HI.out _) (ws68_one _) ?_)
      · rw [ws68_size, ws68_size]; exact Nat.le_refl _
      rw [List.drop_eq_nil_of_le (by rw [ws68_size, Array.length_toList, ws68_size]; exact Nat.le_refl _), List.append_nil, Array.toArray_toList]
      have e1 : Hd ((w2.setRow bq (ws68 (A : Int))).heap[bq]? = some (.cells (ws68 (A : Int)) 94 (0, 0))) := ⟨setRow_heap _ _ _ _ _ _ HX2.out⟩
      have e2 : Hd (Below bq w (w2.setRow bq (ws68 (A : Int)))) := ⟨below_setRow HB2.out (Nat.le_refl _) _⟩
      generalize w2.setRow bq (ws68 (A : Int)) = w3 at *
      go_wp2_with fail
      go_meet
      exact ⟨e1.out, e2.out⟩
  case rest =>
    obtain ⟨hx, hbel⟩ := hcut
    have HR0 : Hd (wc.rowIs bq 94 68 (quoF A n 68)) := ⟨⟨_, hx, ws68_size _, fun i hi => by
      rw [ws68_get _ i hi, dZ_nat]; unfold quoF; rw [if_neg (by omega)]⟩⟩
    have HB0 := Hd.mk hbel
    have hrem : Hd (0 = remW A n 68) := ⟨by
      obtain ⟨k, hk, hf⟩ := HF1.out.out
      unfold remW; rw [← hk, Nat.div_eq_of_lt hf, Nat.zero_mod]⟩
    clear hx hbel HX HB HT
    go_upto_block 0 with fail
    go_loopw [7, 8] (fun rv iv wr => ∃ m : Int, -1 ≤ m ∧ m ≤ 67 ∧ iv = .int .i64 m ∧ rv = .int .u64 (remW A n (m + 1).toNat : Int) ∧ Hd (wr.rowIs bq 94 68 (quoF A n (m + 1).toNat)) ∧ Hd (Below bq w wr)) (fun _ iv _ => (intOf iv + 1).toNat)
    case atStart => exact ⟨67, by decide, by decide, rfl, by rw [show ((67 : Int) + 1).toNat = 68 from rfl, ← hrem.out]; rfl, HR0, HB0⟩
    case round =>
      clear HR0 HB0 hrem
      obtain ⟨m, hm1, hm2, rfl, rfl, HR, HB⟩ := hrel
      by_cases hm : 0 ≤ m
      · obtain ⟨i, rfl⟩ := Int.eq_ofNat_of_zero_le hm
        have hi : i < 68 := by omega
        have row : wr.cell? ⟨bq, i, none⟩ = some (.int .u64 (wN A i : Int)) := by
          have := HR.out.cell (i := i) hi
          unfold quoF at this
          rwa [if_neg (by omega)] at this
        have frz := HR.out.frozen i
        have hd := div_word A n i HN.out
        have HD := Hd.mk (div64_any (remW A n (i + 1)) (wN A i) n (remW_lt A n (i + 1) HN.out) (wN_lt A i) (by omega))
        rw [hd.1, hd.2] at HD
        have e1 : ((i : Int) + 1).toNat = i + 1 := by omega
        rw [e1]
        clear hd e1 hm
        go_wp2_with fail
        refine (HD.out _).mono ?_; rintro e w' ⟨rfl, nq, rfl⟩
        have row2 : (wr.drewN nq).cell? ⟨bq, i, none⟩ = some (.int .u64 (wN A i : Int)) := row
        have frz2 : (wr.drewN nq).frozen? ⟨bq, i, none⟩ = false := frz
        go_wp2_with fail
        refine ⟨⟨(i : Int) - 1, by omega, by omega, rfl, by rw [show ((i : Int) - 1 + 1).toNat = i by omega], ⟨?_⟩, ⟨?_⟩⟩, by simp [intOf]⟩
        · rw [show ((i : Int) - 1 + 1).toNat = i by omega]
          refine ((show (wr.drewN nq).rowIs bq 94 68 (quoF A n (i + 1)) from HR.out).set i _).congr fun m _ => ?_
          unfold quoF
          by_cases h1 : m = i
          · rw [if_pos h1, if_pos (by omega), h1]
          · rw [if_neg h1]
            by_cases h2 : i + 1 ≤ m
            · rw [if_pos h2, if_pos (by omega)]
            · rw [if_neg h2, if_neg (by omega)]
        · exact (below_drewN HB.out nq).setCell (Nat.le_refl _) _
      · have hge : m < 0 := by omega
        have he : Hd ((m + 1).toNat = 0) := ⟨by omega⟩
        have hcell : Hd (∀ i v, (ws68 ((A / n : Nat) : Int))[i]? = some v → wr.cell? ⟨bq, i, none⟩ = some v) := ⟨fun i v hv => by
          obtain ⟨hi, rfl⟩ := ws68_cell hv
          rw [HR.out.cell hi, dZ_nat]
          unfold quoF
          rw [if_pos (by rw [he.out]; exact Nat.zero_le _)]⟩
        have hmore : Hd ((((remW A n (m + 1).toNat : Nat) : Int) != 0) = nz (A % n)) := ⟨by
          rw [he.out]; unfold remW nz bne
          rw [Nat.mul_zero, Nat.pow_zero, Nat.div_one]
          generalize A % n = q
          rw [Bool.eq_iff_iff]; simp⟩
        have hmore2 := hmore.out
        have HNr := Hd.mk (accNear_any (A / n) (nz (A % n)) HF.out)
        have HNg := Hd.mk (near_neg (A / n) (nz (A % n)))
        clear hm hm1 hm2
        go_wp2_with (refine wpList_load_cells rfl 94 (.tmp 6) rfl bq rfl (ws68 ((A / n : Nat) : Int)) _ hcell.out Try.underlying94 rfl (HI.out _) ?_)
        refine (HNr.out _).mono ?_; rintro e w2 ⟨rfl, hb⟩
        have hlt : bq ≤ wr.heap.size := by rw [← HBQ.out]; exact HB.out.size
        have HB2 := Hd.mk (HB.out.trans (hb.mono hlt))
        clear hb
        have HBl2 := Hd.mk (HBl.out w2 HB2.out)
        cases neg
        · go_wp2_with (go_at_call 72; refine (HBl2.out).mono ?_; rintro e w' ⟨rfl, rfl⟩)
          go_ret2
          exact ⟨rfl, by rw [HBQ.out]; exact HB2.out⟩
        · go_wp2_with (go_at_call 72; refine (HBl2.out).mono ?_; rintro e w' ⟨rfl, rfl⟩)
          go_ret2
          exact ⟨by rw [← HNg.out]; rfl, by rw [HBQ.out]; exact HB2.out⟩

end Go.Proofs.Yteikihidblcljaa

/- The walks of Acc's Over (any), Value, and of Sum and Dot. -/
namespace Go.Proofs.Yteikihidblcljaa
open Go.RowKit
set_option linter.unusedSimpArgs false
set_option linter.unusedVariables false

theorem over_any (b : Nat) (z : Int) (up dn : Bool) (n : Nat) (hn : 1 ≤ n) (hn2 : n ≤ 9223372036854775807) (w : World) (h : AccIs w b z up dn) (hb : AccB z) :
    Calls Try.prog 20 #[.pointer (some ⟨b, 0, none⟩), .int .i64 n] w fun e w' => e = .returned (.tuple #[.float .f64 (overA z up dn n), .bool true]) ∧ Below w.heap.size w w' := by
  cases hf : (up || dn)
  · rw [Bool.or_eq_false_iff] at hf
    obtain ⟨rfl, rfl⟩ := hf
    exact over_num b z n hn hn2 w h hb
  · exact (over_inf b z up dn n hn hf w h).mono fun e w' hh => ⟨hh.1, by rw [← hh.2]; exact Below.refl _ _⟩

set_option maxHeartbeats 800000 in
theorem value_any (b : Nat) (z : Int) (up dn : Bool) (w : World) (h : AccIs w b z up dn) (hb : AccB z) :
    Calls Try.prog 27 #[.pointer (some ⟨b, 0, none⟩)] w fun e w' => e = .returned (.float .f64 (overA z up dn 1)) ∧ Below w.heap.size w w' := by
  have HO := Hd.mk (over_any b z up dn 1 (by decide) (by decide) w h hb)
  clear h hb
  generalize overA z up dn 1 = v at *
  go_enter Try.func27, Try.ntmps27
  go_wp2_with fail
  refine HO.out.mono ?_; rintro e w1 ⟨rfl, hb⟩
  have HB := Hd.mk hb
  clear hb
  go_wp2_with fail
  go_ret
  exact ⟨rfl, HB.out⟩

/-- The exact sum of a list, in units of 2^-2148, and what its infinities and NaNs say. -/
def zS : List Nat → Int
  | [] => 0
  | x :: l => aZ x + zS l
def uS (l : List Nat) : Bool := l.any upB
def dS (l : List Nat) : Bool := l.any dnB
theorem zS_snoc : ∀ (l : List Nat) (x : Nat), zS (l ++ [x]) = zS l + aZ x
  | [], x => by simp [zS]
  | y :: l, x => by rw [List.cons_append, zS, zS, zS_snoc l x]; omega
theorem take_next (l : List Nat) (k : Nat) (h : k < l.length) : l.take (k + 1) = l.take k ++ [l.getD k 0] := by
  rw [List.take_add_one, List.getElem?_eq_getElem h]
  simp [List.getElem?_eq_getElem h]
theorem zS_take (l : List Nat) (k : Nat) (h : k < l.length) : zS (l.take (k + 1)) = zS (l.take k) + aZ (l.getD k 0) ∧ uS (l.take (k + 1)) = (uS (l.take k) || upB (l.getD k 0)) ∧ dS (l.take (k + 1)) = (dS (l.take k) || dnB (l.getD k 0)) := by
  rw [take_next l k h, zS_snoc]
  unfold uS dS
  simp [List.any_append]

theorem Fls.belowK {w w' : World} {a : Option Addr} {l : List Nat} (h : Fls w a l) (hb : Below w.heap.size w w') : Fls w' a l :=
  ⟨h.nil, fun b o v e i hi => ⟨(h.cell b o v e i hi).1, by
    have hc := (h.cell b o v e i hi).2
    rw [hb.cell (p := ⟨b, o + i, none⟩) (World.block_lt_of_cell? _ _ hc), hc]⟩, h.wf, h.len⟩
theorem Fls.at {w : World} {a : Option Addr} {l : List Nat} (h : Fls w a l) (k : Nat) (hk : k < l.length) : ∃ b o, a = Option.some ⟨b, o, none⟩ ∧ w.cell? ⟨b, o + k, none⟩ = Option.some (.float .f64 (l.getD k 0)) := by
  cases a with
  | none => have := h.nil rfl; rw [this] at hk; simp at hk
  | some p => obtain ⟨b, o, v⟩ := p; have h2 := h.cell b o v rfl k hk; obtain ⟨rfl, h3⟩ := h2; exact ⟨b, o, rfl, h3⟩

set_option maxHeartbeats 1600000 in
theorem sum_any (a : Option Addr) (l : List Nat) (c : Nat) (w : World) (hl : Fls w a l) (hz : AccB (zS l)) :
    Calls Try.prog 48 #[.slice a l.length c] w fun e w' => e = .returned (.float .f64 (overA (zS l) (uS l) (dS l) 1)) ∧ Below w.heap.size w w' := by
  have HL := Hd.mk hl
  have HZ := Hd.mk hz
  have hlen := hl.len
  obtain ⟨n, hn⟩ : ∃ n, l.length = n := ⟨_, rfl⟩
  rw [hn] at hlen ⊢
  have HN := Hd.mk hn
  clear hl hz hn
  go_enter Try.func48, Try.ntmps48
  go_wp2_with fail
  refine (new_any _).mono ?_; rintro e w1 ⟨ba, rfl, hba, hacc, hb⟩
  have HA0 := Hd.mk hacc
  have HB0 := Hd.mk hb
  have HBA := Hd.mk hba
  clear hacc hb hba
  go_wp2_with fail
  go_loopw [9] (fun iv wr => ∃ k : Nat, k ≤ n ∧ iv = .int .i64 k ∧ Hd (AccIs wr ba (zS (l.take k)) (uS (l.take k)) (dS (l.take k))) ∧ Hd (Below w.heap.size w wr)) (fun iv _ => n - (intOf iv).toNat)
  case atStart => exact ⟨0, Nat.zero_le _, rfl, HA0, HB0⟩
  case round =>
    clear HA0 HB0
    obtain ⟨k, hk, rfl, HA, HB⟩ := hrel
    by_cases hlt : k < n
    · obtain ⟨b, o, ha, hc⟩ := (HL.out.belowK HB.out).at k (by rw [HN.out]; exact hlt)
      subst ha
      have hlt' : (k : Int) < n := by omega
      have HS := Hd.mk (zS_take l k (by rw [HN.out]; exact hlt))
      have HAd := Hd.mk (accAdd_any ba _ _ _ (l.getD k 0) wr HA.out (HL.out.wf k))
      rw [← HS.out.1, ← HS.out.2.1, ← HS.out.2.2] at HAd
      have k0 : (0 : Int) ≤ k := by omega
      generalize l.getD k 0 = x at *
      clear hlt
      go_wp2_with fail
      refine (HAd.out).mono ?_; rintro e w2 ⟨rfl, hacc, ho⟩
      have HA2 := Hd.mk hacc
      have HB2 := Hd.mk (Only.below HB.out HBA.out ho HB.out.size)
      clear hacc ho
      go_wp2_with fail
      exact ⟨⟨k + 1, by omega, by go_num, HA2, HB2⟩, by simp [intOf]; omega⟩
    · have hge : (n : Int) ≤ k := by omega
      have he : Hd (l.take k = l) := ⟨List.take_of_length_le (by rw [HN.out]; omega)⟩
      have HV := Hd.mk (value_any ba _ _ _ wr HA.out (by rw [he.out]; exact HZ.out))
      rw [he.out] at HV
      clear hlt
      go_wp2_with fail
      refine (HV.out).mono ?_; rintro e w2 ⟨rfl, hb⟩
      have HB2 := Hd.mk (HB.out.trans (hb.mono HB.out.size))
      clear hb
      go_wp2_with fail
      go_ret
      exact ⟨rfl, HB2.out⟩

/-- The exact sum of products. -/
def zD : List Nat → List Nat → Int
  | x :: l, y :: m => pZ x y + zD l m
  | _, _ => 0
def uD : List Nat → List Nat → Bool
  | x :: l, y :: m => puB x y || uD l m
  | _, _ => false
def dD : List Nat → List Nat → Bool
  | x :: l, y :: m => pdB x y || dD l m
  | _, _ => false
theorem zD_take : ∀ (l m : List Nat) (k : Nat), k < l.length → k < m.length → zD (l.take (k + 1)) (m.take (k + 1)) = zD (l.take k) (m.take k) + pZ (l.getD k 0) (m.getD k 0) ∧ uD (l.take (k + 1)) (m.take (k + 1)) = (uD (l.take k) (m.take k) || puB (l.getD k 0) (m.getD k 0)) ∧ dD (l.take (k + 1)) (m.take (k + 1)) = (dD (l.take k) (m.take k) || pdB (l.getD k 0) (m.getD k 0))
  | x :: l, y :: m, 0, _, _ => by simp [zD, uD, dD]
  | x :: l, y :: m, k + 1, h, h' => by
    obtain ⟨a, b, c⟩ := zD_take l m k (by simpa using h) (by simpa using h')
    simp only [List.take_succ_cons, zD, uD, dD, List.getD_cons_succ]
    refine ⟨by rw [a]; omega, by rw [b, Bool.or_assoc], by rw [c, Bool.or_assoc]⟩
  | [], _, k, h, _ => by simp at h
  | _ :: _, [], k, _, h => by simp at h

set_option maxHeartbeats 800000 in
theorem dot_no (a : Option Addr) (n c : Nat) (a' : Option Addr) (n' c' : Nat) (hn : n ≠ n') (w : World) :
    Calls Try.prog 47 #[.slice a n c, .slice a' n' c'] w fun e w' => e = .returned (.tuple #[.float .f64 0, .bool false]) ∧ w = w' := by
  have h : ((n : Int) != n') = true := by rw [bne_iff_ne]; omega
  go_enter Try.func47, Try.ntmps47
  go_wp2_with fail
  go_ret2
  exact ⟨rfl, rfl⟩

set_option maxHeartbeats 1600000 in
set_option maxRecDepth 100000 in
theorem dot_any (a : Option Addr) (l : List Nat) (c : Nat) (a' : Option Addr) (m : List Nat) (c' : Nat) (w : World) (hl : Fls w a l) (hm : Fls w a' m) (hlm : l.length = m.length) (hz : AccB (zD l m)) :
    Calls Try.prog 47 #[.slice a l.length c, .slice a' m.length c'] w fun e w' => e = .returned (.tuple #[.float .f64 (overA (zD l m) (uD l m) (dD l m) 1), .bool true]) ∧ Below w.heap.size w w' := by
  have HL := Hd.mk hl
  have HM := Hd.mk hm
  have HZ := Hd.mk hz
  have hlen := hl.len
  rw [← hlm]
  obtain ⟨n, hn⟩ : ∃ n, l.length = n := ⟨_, rfl⟩
  obtain ⟨n', hn'⟩ : ∃ n', n' = n := ⟨_, rfl⟩
  rw [hn] at hlen hlm ⊢
  have HN := Hd.mk hn
  have HN' := Hd.mk hlm.symm
  have t1 : ((n : Int) != n) = false := by simp
  clear hl hm hz hn hlm
  go_enter Try.func47, Try.ntmps47
  go_wp2_with fail
  refine (new_any _).mono ?_; rintro e w1 ⟨ba, rfl, hba, hacc, hb⟩
  have HA0 := Hd.mk hacc
  have HB0 := Hd.mk hb
  have HBA := Hd.mk hba
  clear hacc hb hba
  go_wp2_with fail
  go_loopw [16] (fun iv wr => ∃ k : Nat, k ≤ n ∧ iv = .int .i64 k ∧ Hd (AccIs wr ba (zD (l.take k) (m.take k)) (uD (l.take k) (m.take k)) (dD (l.take k) (m.take k))) ∧ Hd (Below w.heap.size w wr)) (fun iv _ => n - (intOf iv).toNat)
  case atStart => exact ⟨0, Nat.zero_le _, rfl, HA0, HB0⟩
  case round =>
    clear HA0 HB0
    obtain ⟨k, hk, rfl, HA, HB⟩ := hrel
    by_cases hlt : k < n
    · obtain ⟨b, o, ha, hc⟩ := (HL.out.belowK HB.out).at k (by rw [HN.out]; exact hlt)
      obtain ⟨b', o', ha', hc'⟩ := (HM.out.belowK HB.out).at k (by rw [HN'.out]; exact hlt)
      subst ha
      subst ha'
      have hlt' : (k : Int) < n := by omega
      have HS := Hd.mk (zD_take l m k (by rw [HN.out]; exact hlt) (by rw [HN'.out]; exact hlt))
      have HAd : Hd (∀ w2, AccIs w2 ba (zD (l.take k) (m.take k)) (uD (l.take k) (m.take k)) (dD (l.take k) (m.take k)) → Calls Try.prog 13 #[.pointer (some ⟨ba, 0, none⟩), .float .f64 (l.getD k 0), .float .f64 (m.getD k 0)] w2 fun e w' => e = .returned (.tuple #[]) ∧ AccIs w' ba (zD (l.take (k + 1)) (m.take (k + 1))) (uD (l.take (k + 1)) (m.take (k + 1))) (dD (l.take (k + 1)) (m.take (k + 1))) ∧ Only ba w2 w') := ⟨fun w2 h2 => by
        have := accProd_any ba _ _ _ (l.getD k 0) (m.getD k 0) w2 h2 (HL.out.wf k) (HM.out.wf k)
        rwa [← HS.out.1, ← HS.out.2.1, ← HS.out.2.2] at this⟩
      have k0 : (0 : Int) ≤ k := by omega
      generalize l.getD k 0 = x at *
      generalize m.getD k 0 = y at *
      clear hlt
      go_wp2_with fail
      have h2c : wr.drew.cell? ⟨b, o + k, none⟩ = some (.float .f64 x) := hc
      have h2c' : wr.drew.cell? ⟨b', o' + k, none⟩ = some (.float .f64 y) := hc'
      refine wp_region_still_tail 9 (by kernel_rfl) (by kernel_rfl) ?_
      simp only [List.take_succ_cons, List.take_zero, List.drop_succ_cons, List.drop_zero]
      change wpStill _ _ wr.drew _ _ _
      iterate 9 still_step
      refine wpStill_nil ?_
      change wpList _ _ _ _ _ wr.drew
      go_wp2_with fail
      refine (HAd.out _ HA.out.drew).mono ?_; rintro e w2 ⟨rfl, hacc, ho⟩
      have HA2 := Hd.mk hacc
      have HB2 := Hd.mk (Only.below HB.out.drew HBA.out ho HB.out.size)
      clear hacc ho
      go_wp2_with fail
      exact ⟨⟨k + 1, by omega, by go_num, HA2, HB2⟩, by simp [intOf]; omega⟩
    · have hge : (n : Int) ≤ k := by omega
      have he : Hd (l.take k = l) := ⟨List.take_of_length_le (by rw [HN.out]; omega)⟩
      have he' : Hd (m.take k = m) := ⟨List.take_of_length_le (by rw [HN'.out]; omega)⟩
      have HV := Hd.mk (value_any ba _ _ _ wr HA.out (by rw [he.out, he'.out]; exact HZ.out))
      rw [he.out, he'.out] at HV
      clear hlt
      go_wp2_with fail
      refine (HV.out).mono ?_; rintro e w2 ⟨rfl, hb⟩
      have HB2 := Hd.mk (HB.out.trans (hb.mono HB.out.size))
      clear hb
      go_wp2_with fail
      go_ret2
      exact ⟨rfl, HB2.out⟩

end Go.Proofs.Yteikihidblcljaa

/- The walks of acc's Left, Kahan, Pair. -/
namespace Go.Proofs.Yteikihidblcljaa
open Go.RowKit
set_option linter.unusedSimpArgs false
set_option linter.unusedVariables false

/-- A sum by steps from the left, all NaNs one. -/
def leftF (l : List Nat) : Nat := l.foldl (fun s x => fadd s (cn x)) 0
theorem leftF_take (l : List Nat) (k : Nat) (h : k < l.length) : leftF (l.take (k + 1)) = fadd (leftF (l.take k)) (cn (l.getD k 0)) := by
  rw [take_next l k h]; unfold leftF; rw [List.foldl_append]; rfl

set_option maxHeartbeats 1600000 in
theorem left_any (a : Option Addr) (l : List Nat) (c : Nat) (w : World) (hl : Fls w a l) :
    Calls Try.prog 49 #[.slice a l.length c] w (FRet (leftF l) w) := by
  have HL := Hd.mk hl
  have hlen := hl.len
  obtain ⟨n, hn⟩ : ∃ n, l.length = n := ⟨_, rfl⟩
  rw [hn] at hlen ⊢
  have HN := Hd.mk hn
  clear hl hn
  go_enter Try.func49, Try.ntmps49
  go_wp2_with fail
  go_loopw [3, 8] (fun sv iv wr => ∃ (k s m : Nat), k ≤ n ∧ iv = .int .i64 k ∧ sv = .float .f64 s ∧ F64 s ∧ Hd (cn s = leftF (l.take k)) ∧ wr = w.drewN m) (fun _ iv _ => n - (intOf iv).toNat)
  case atStart => exact ⟨0, 0, 0, Nat.zero_le _, rfl, rfl, ⟨by decide⟩, ⟨cn_zero⟩, rfl⟩
  case round =>
    obtain ⟨k, s, m, hk, rfl, rfl, hs, HS, rfl⟩ := hrel
    by_cases hlt : k < n
    · obtain ⟨b, o, ha, hc⟩ := HL.out.at k (by rw [HN.out]; exact hlt)
      subst ha
      have hlt' : (k : Int) < n := by omega
      have HT := Hd.mk (leftF_take l k (by rw [HN.out]; exact hlt))
      have HX := Hd.mk (HL.out.wf k)
      have HF : Hd (∀ w1, cn (fres .add s (l.getD k 0) w1) = leftF (l.take (k + 1))) := ⟨fun w1 => by rw [cn_fadd _ _ _ hs HX.out, HS.out, HT.out]⟩
      generalize l.getD k 0 = x at *
      clear hlt
      go_wp2_with fail
      exact ⟨⟨k + 1, _, _, by omega, by go_num, rfl, F64_fres _ _ _ _, ⟨HF.out _⟩, rfl⟩, by simp [intOf]; omega⟩
    · have hge : (n : Int) ≤ k := by omega
      have he : Hd (cn s = leftF l) := ⟨by rw [HS.out, List.take_of_length_le (by rw [HN.out]; omega)]⟩
      clear hlt
      go_wp2_with fail
      go_ret
      exact ⟨s, m, rfl, hs, he.out, rfl⟩

set_option maxHeartbeats 800000 in
theorem mabs_any (x : Nat) (hx : F64 x) (w : World) :
    Calls Try.prog 100 #[.float .f64 x] w fun e w' => e = .returned (.float .f64 (mg x)) ∧ w = w' := by
  have hb := bits_mg x hx
  have hl := mg_lt x
  go_enter Try.func100, Try.ntmps100
  go_wp2_with fail
  go_ret
  exact ⟨rfl, rfl⟩

/-- Is the first one's size not below the other's? -/
def gmB (a b : Nat) : Bool := !nn a && !nn b && decide (mg b ≤ mg a)
theorem ge_mg (s x : Nat) : ((FloatKind.f64.format.order (mg s) (mg x) == some .gt) || (FloatKind.f64.format.order (mg s) (mg x) == some .eq)) = gmB (cn s) (cn x) := by
  have l1 := mg_lt s
  have l2 := mg_lt x
  have e : ∀ y, mg (mg y) = mg y := fun y => mg_small _ (mg_lt y)
  have n : ∀ y, nn (mg y) = nn y := fun y => by unfold nn; rw [e]
  have r : ∀ y, rk (mg y) = (mg y : Int) := fun y => by rw [rk_of_pos (ng_small _ (mg_lt y)), e]
  rw [fgt (mg s) (mg x) ⟨by omega⟩ ⟨by omega⟩, feq (mg s) (mg x) ⟨by omega⟩ ⟨by omega⟩, n, n, r, r]
  unfold gmB
  rw [nn_cn, nn_cn]
  cases h1 : nn s
  · cases h2 : nn x
    · rw [cn_of s h1, cn_of x h2]
      simp only [Bool.not_false, Bool.true_and]
      rw [Bool.eq_iff_iff]; simp; omega
    · simp
  · simp

/-- A sum with what was lost, all NaNs one. -/
def kahS (p : Nat × Nat) (x : Nat) : Nat × Nat := (fadd p.1 x, fadd p.2 (if gmB p.1 x then fadd (fsub p.1 (fadd p.1 x)) x else fadd (fsub x (fadd p.1 x)) p.1))
def kahP (l : List Nat) : Nat × Nat := l.foldl (fun p x => kahS p (cn x)) (0, 0)
def kahF (l : List Nat) : Nat := fadd (kahP l).1 (kahP l).2
theorem kahP_take (l : List Nat) (k : Nat) (h : k < l.length) : kahP (l.take (k + 1)) = kahS (kahP (l.take k)) (cn (l.getD k 0)) := by
  rw [take_next l k h]; unfold kahP; rw [List.foldl_append]; rfl

set_option maxHeartbeats 1600000 in
theorem kahan_any (a : Option Addr) (l : List Nat) (c : Nat) (w : World) (hl : Fls w a l) :
    Calls Try.prog 51 #[.slice a l.length c] w (FRet (kahF l) w) := by
  have HL := Hd.mk hl
  have hlen := hl.len
  obtain ⟨n, hn⟩ : ∃ n, l.length = n := ⟨_, rfl⟩
  rw [hn] at hlen ⊢
  have HN := Hd.mk hn
  clear hl hn
  go_enter Try.func51, Try.ntmps51
  go_wp2_with fail
  go_loopw [3, 4, 10] (fun sv cv iv wr => ∃ (k s d m : Nat), k ≤ n ∧ iv = .int .i64 k ∧ sv = .float .f64 s ∧ cv = .float .f64 d ∧ F64 s ∧ F64 d ∧ Hd (cn s = (kahP (l.take k)).1) ∧ Hd (cn d = (kahP (l.take k)).2) ∧ wr = w.drewN m) (fun _ _ iv _ => n - (intOf iv).toNat)
  case atStart => exact ⟨0, 0, 0, 0, Nat.zero_le _, rfl, rfl, rfl, ⟨by decide⟩, ⟨by decide⟩, ⟨cn_zero⟩, ⟨cn_zero⟩, rfl⟩
  case round =>
    obtain ⟨k, s, d, m, hk, rfl, rfl, rfl, hs, hd, HS, HD, rfl⟩ := hrel
    by_cases hlt : k < n
    · obtain ⟨b, o, ha, hc⟩ := HL.out.at k (by rw [HN.out]; exact hlt)
      subst ha
      have hlt' : (k : Int) < n := by omega
      have HT := Hd.mk (kahP_take l k (by rw [HN.out]; exact hlt))
      have HX := Hd.mk (HL.out.wf k)
      have HG := Hd.mk (ge_mg s (l.getD k 0))
      rw [HS.out] at HG
      have H1 : Hd (∀ w1, cn (fres .add s (l.getD k 0) w1) = (kahP (l.take (k + 1))).1) := ⟨fun w1 => by rw [cn_fadd _ _ _ hs HX.out, HS.out, HT.out]; rfl⟩
      have HA1 := Hd.mk (mabs_any s hs)
      have HA2 := Hd.mk (mabs_any (l.getD k 0) HX.out)
      clear hlt
      cases hg : gmB (kahP (l.take k)).1 (cn (l.getD k 0))
      · rw [hg] at HG
        have gt := HG.out
        have H2 : Hd (∀ w1 w2 w3 w4, cn (fres .add d (fres .add (fres .sub (l.getD k 0) (fres .add s (l.getD k 0) w1) w2) s w3) w4) = (kahP (l.take (k + 1))).2) := ⟨fun w1 w2 w3 w4 => by
          rw [cn_fadd _ _ _ hd (F64_fres _ _ _ _), cn_fadd _ _ _ (F64_fres _ _ _ _) hs, cn_fsub _ _ _ HX.out (F64_fres _ _ _ _), cn_fadd _ _ _ hs HX.out, HS.out, HD.out, HT.out]
          unfold kahS; rw [hg]; rfl⟩
        generalize l.getD k 0 = x at *
        clear hg HG HT
        go_wp2_with fail
        refine (HA1.out _).mono ?_; rintro e w' ⟨rfl, rfl⟩
        go_wp2_with fail
        refine (HA2.out _).mono ?_; rintro e w' ⟨rfl, rfl⟩
        go_wp2_with fail
        exact ⟨⟨k + 1, _, _, _, by omega, by go_num, rfl, rfl, F64_fres _ _ _ _, F64_fres _ _ _ _, ⟨H1.out _⟩, ⟨H2.out _ _ _ _⟩, rfl⟩, by simp [intOf]; omega⟩
      · rw [hg] at HG
        have gt := HG.out
        have H2 : Hd (∀ w1 w2 w3 w4, cn (fres .add d (fres .add (fres .sub s (fres .add s (l.getD k 0) w1) w2) (l.getD k 0) w3) w4) = (kahP (l.take (k + 1))).2) := ⟨fun w1 w2 w3 w4 => by
          rw [cn_fadd _ _ _ hd (F64_fres _ _ _ _), cn_fadd _ _ _ (F64_fres _ _ _ _) HX.out, cn_fsub _ _ _ hs (F64_fres _ _ _ _), cn_fadd _ _ _ hs HX.out, HS.out, HD.out, HT.out]
          unfold kahS; rw [hg]; rfl⟩
        generalize l.getD k 0 = x at *
        clear hg HG HT
        go_wp2_with fail
        refine (HA1.out _).mono ?_; rintro e w' ⟨rfl, rfl⟩
        go_wp2_with fail
        refine (HA2.out _).mono ?_; rintro e w' ⟨rfl, rfl⟩
        go_wp2_with fail
        exact ⟨⟨k + 1, _, _, _, by omega, by go_num, rfl, rfl, F64_fres _ _ _ _, F64_fres _ _ _ _, ⟨H1.out _⟩, ⟨H2.out _ _ _ _⟩, rfl⟩, by simp [intOf]; omega⟩
    · have hge : (n : Int) ≤ k := by omega
      have he : Hd (∀ w1, cn (fres .add s d w1) = kahF l) := ⟨fun w1 => by rw [cn_fadd _ _ _ hs hd, HS.out, HD.out, List.take_of_length_le (by rw [HN.out]; omega)]; rfl⟩
      clear hlt
      go_wp2_with fail
      go_ret
      exact ⟨_, _, rfl, F64_fres _ _ _ _, he.out _, rfl⟩

end Go.Proofs.Yteikihidblcljaa

/- The walk of acc's Pair. -/
namespace Go.Proofs.Yteikihidblcljaa
open Go.RowKit
set_option linter.unusedSimpArgs false
set_option linter.unusedVariables false

/-- A sum by halves, all NaNs one. -/
def pairF : Nat → List Nat → Nat
  | 0, _ => 0
  | n + 1, l => if l.length = 0 then 0 else if l.length = 1 then cn (l.getD 0 0) else fadd (pairF n (l.take (l.length / 2))) (pairF n (l.drop (l.length / 2)))

theorem Fls.takeK {w : World} {b o : Nat} {l : List Nat} (h : Fls w (Option.some ⟨b, o, none⟩) l) (k : Nat) (hk : k ≤ l.length) : Fls w (Option.some ⟨b, o, none⟩) (l.take k) :=
  ⟨(fun e => by cases e), fun b' o' v e i hi => by
    rw [List.length_take] at hi
    have := h.cell b' o' v e i (by omega)
    refine ⟨this.1, ?_⟩
    rw [this.2]
    congr 2
    simp only [List.getD_eq_getElem?_getD]
    rw [List.getElem?_take_of_lt (by omega)], fun i => by
      by_cases hi : i < k
      · have := h.wf i
        simp only [List.getD_eq_getElem?_getD] at this ⊢
        rwa [List.getElem?_take_of_lt hi]
      · simp only [List.getD_eq_getElem?_getD]
        rw [List.getElem?_eq_none (by rw [List.length_take]; omega)]
        exact ⟨by decide⟩, by rw [List.length_take]; have := h.len; omega⟩
theorem Fls.dropK {w : World} {b o : Nat} {l : List Nat} (h : Fls w (Option.some ⟨b, o, none⟩) l) (k : Nat) (hk : k ≤ l.length) : Fls w (Option.some ⟨b, o + k, none⟩) (l.drop k) :=
  ⟨(fun e => by cases e), fun b' o' v e i hi => by
    rw [List.length_drop] at hi
    cases e
    have := (h.cell b o none rfl (k + i) (by omega)).2
    refine ⟨rfl, ?_⟩
    rw [show o + k + i = o + (k + i) by omega, this]
    congr 2
    simp only [List.getD_eq_getElem?_getD]
    rw [List.getElem?_drop], fun i => by
      have := h.wf (k + i)
      simp only [List.getD_eq_getElem?_getD] at this ⊢
      rwa [List.getElem?_drop], by rw [List.length_drop]; have := h.len; omega⟩
theorem Fls.heap {w w' : World} {a : Option Addr} {l : List Nat} (h : Fls w a l) (e : w'.heap = w.heap) : Fls w' a l :=
  ⟨h.nil, fun b o v ha i hi => ⟨(h.cell b o v ha i hi).1, by have := (h.cell b o v ha i hi).2; unfold World.cell? at *; rw [e]; exact this⟩, h.wf, h.len⟩

set_option maxHeartbeats 1600000 in
set_option maxRecDepth 100000 in
theorem pair_any : ∀ (n : Nat) (a : Option Addr) (l : List Nat) (c : Nat) (w : World), l.length ≤ n → l.length ≤ c → c ≤ 9223372036854775807 → Fls w a l →
    Calls Try.prog 50 #[.slice a l.length c] w (FRet (pairF (n + 1) l) w) := by
  intro n
  induction n with
  | zero =>
    intro a l c w h1 h2 h3 hl
    have h0 : l.length = 0 := by omega
    have hv : pairF (0 + 1) l = 0 := by unfold pairF; rw [if_pos h0]
    rw [hv, h0]
    clear h1 h2 hl h0 hv
    go_enter Try.func50, Try.ntmps50
    go_wp2_with fail
    go_ret
    exact ⟨0, 0, rfl, ⟨by decide⟩, cn_zero, rfl⟩
  | succ n ih =>
    intro a l c w h1 h2 h3 hl
    have HL := Hd.mk hl
    by_cases h0 : l.length = 0
    · have hv : pairF (n + 1 + 1) l = 0 := by unfold pairF; rw [if_pos h0]
      rw [hv, h0]
      clear h1 h2 hl h0 hv ih
      go_enter Try.func50, Try.ntmps50
      go_wp2_with fail
      go_ret
      exact ⟨0, 0, rfl, ⟨by decide⟩, cn_zero, rfl⟩
    obtain ⟨b, o, ha, hc⟩ := hl.at 0 (by omega)
    subst ha
    rw [Nat.add_zero] at hc
    by_cases hone : l.length = 1
    · have hv : pairF (n + 1 + 1) l = cn (l.getD 0 0) := by unfold pairF; rw [if_neg h0, if_pos hone]
      have HX := Hd.mk (hl.wf 0)
      rw [hv, hone]
      clear h1 h2 hl h0 hv ih HL
      generalize l.getD 0 0 = x at *
      go_enter Try.func50, Try.ntmps50
      go_wp2_with fail
      go_ret
      exact ⟨x, 0, rfl, HX.out, rfl, rfl⟩
    · have hv : pairF (n + 1 + 1) l = fadd (pairF (n + 1) (l.take (l.length / 2))) (pairF (n + 1) (l.drop (l.length / 2))) := by
        conv => lhs; unfold pairF
        rw [if_neg h0, if_neg hone]
      rw [hv]
      obtain ⟨h, hh⟩ : ∃ h, l.length / 2 = h := ⟨_, rfl⟩
      obtain ⟨N, hN⟩ : ∃ N, l.length = N := ⟨_, rfl⟩
      rw [hh]
      rw [hN] at h0 h1 h2 hh hone ⊢
      have hh1 : 1 ≤ h := by omega
      have hh2 : h < N := by omega
      have H1 : Hd (∀ w', w'.heap = w.heap → Calls Try.prog 50 #[.slice (some ⟨b, o, none⟩) h c] w' (FRet (pairF (n + 1) (l.take h)) w')) := ⟨fun w' e => by
        have := ih (some ⟨b, o, none⟩) (l.take h) c w' (by rw [List.length_take]; omega) (by rw [List.length_take]; omega) h3 ((HL.out.takeK h (by omega)).heap e)
        rwa [List.length_take, hN, Nat.min_eq_left (by omega)] at this⟩
      have H2 : Hd (∀ w', w'.heap = w.heap → Calls Try.prog 50 #[.slice (some ⟨b, o + h, none⟩) (N - h) (c - h)] w' (FRet (pairF (n + 1) (l.drop h)) w')) := ⟨fun w' e => by
        have := ih (some ⟨b, o + h, none⟩) (l.drop h) (c - h) w' (by rw [List.length_drop]; omega) (by rw [List.length_drop]; omega) (by omega) ((HL.out.dropK h (by omega)).heap e)
        rwa [List.length_drop, hN] at this⟩
      generalize pairF (n + 1) (l.take h) = V1 at *
      generalize pairF (n + 1) (l.drop h) = V2 at *
      have t1 : ((N : Int) == 0) = false := by rw [beq_eq_false_iff_ne]; omega
      have t2 : ((N : Int) == 1) = false := by rw [beq_eq_false_iff_ne]; omega
      have d1 : (N : Int) / 2 = h := by omega
      have b1 : (1 : Int) ≤ h := by omega
      have b2 : (h : Int) < N := by omega
      have b3 : (N : Int) ≤ c := by omega
      have b4 : (c : Int) ≤ 9223372036854775807 := by omega
      clear ih HL hl hc hv h1 hN hone h0
      have hh3 : h ≤ c := by omega
      have hh4 : ¬ c = h := by omega
      clear hh
      go_enter Try.func50, Try.ntmps50
      go_wp2_with fail
      go_region_with (first
        | (go_at_call 50; (with_reducible refine (H1.out _ ?_).mono ?_); exact rfl; rintro en w1 ⟨r1, m1, rfl, hr1, hc1, rfl⟩)
        | (go_at_call 50; (with_reducible refine (H2.out _ ?_).mono ?_); exact rfl; rintro en w1 ⟨r2, m2, rfl, hr2, hc2, rfl⟩))
      all_goals
        go_wp2_with fail
        go_ret
        exact ⟨_, _, rfl, F64_fres _ _ _ _, by rw [cn_fadd _ _ _ hr1 hr2, hc1, hc2], rfl⟩

end Go.Proofs.Yteikihidblcljaa

/- How far the sums of layer 3 reach, and the walk of tenorlaw3.awake. -/
namespace Go.Proofs.Yteikihidblcljaa
open Go.RowKit
set_option linter.unusedSimpArgs false
set_option linter.unusedVariables false

@[irreducible] def bigB : Nat := 2 ^ 4200
theorem bigB_ge (c : Nat) (h : c = 4200) : bigB = 2 ^ c := by unfold bigB; rw [h]
theorem natAbs_SV (x : Nat) : (SV x).natAbs = VV (mg x) := by unfold SV; split <;> omega
theorem big_key (p q a b c : Nat) (h1 : p < 2 ^ a) (h2 : q ≤ 2 ^ b) (h : a + b ≤ c) : p * q ≤ 2 ^ c :=
  calc p * q ≤ 2 ^ a * 2 ^ b := Nat.mul_le_mul (Nat.le_of_lt h1) h2
    _ = 2 ^ (a + b) := by rw [← Nat.pow_add]
    _ ≤ 2 ^ c := Nat.pow_le_pow_right (by decide) h
theorem VV_big (n x : Nat) (hn : n = 2100) (h : fin x = true) (hx : F64 x) : VV (mg x) < 2 ^ n := by rw [hn]; exact VV_lt_big x h hx
theorem aZ_bd (x : Nat) (hx : F64 x) : (aZ x).natAbs ≤ bigB := by
  unfold aZ
  split
  · next h =>
    rw [Int.natAbs_mul, natAbs_SV, Int.natAbs_natCast]
    obtain ⟨n, hn⟩ : ∃ n, n = 2100 := ⟨_, rfl⟩
    obtain ⟨c, hc⟩ : ∃ c, c = 4200 := ⟨_, rfl⟩
    rw [bigB_ge c hc]
    exact big_key _ _ n dp c (VV_big n x hn h hx) (Nat.le_refl _) (by rw [hn, hc]; unfold dp; decide)
  · exact Nat.zero_le _
theorem pZ_bd (x y : Nat) (hx : F64 x) (hy : F64 y) : (pZ x y).natAbs ≤ bigB := by
  unfold pZ
  split
  · next h =>
    rw [Bool.and_eq_true] at h
    rw [Int.natAbs_mul, natAbs_SV, natAbs_SV]
    obtain ⟨n, hn⟩ : ∃ n, n = 2100 := ⟨_, rfl⟩
    obtain ⟨c, hc⟩ : ∃ c, c = 4200 := ⟨_, rfl⟩
    rw [bigB_ge c hc]
    exact big_key _ _ n n c (VV_big n x hn h.1 hx) (Nat.le_of_lt (VV_big n y hn h.2 hy)) (by rw [hn, hc]; decide)
  · exact aZ_bd _ (F64_fmul x y)

/-- A sum of no more than k terms. -/
structure Bd (k : Nat) (z : Int) : Prop where
  le : z.natAbs ≤ k * bigB
theorem Bd.zero (k : Nat) : Bd k 0 := ⟨Nat.zero_le _⟩
theorem Bd.add {a b : Nat} {z y : Int} (h : Bd a z) (k : Bd b y) : Bd (a + b) (z + y) := ⟨by
  have h1 := h.le
  have h2 := k.le
  rw [Nat.add_mul]
  generalize a * bigB = p at *
  generalize b * bigB = q at *
  omega⟩
theorem Bd.neg {a : Nat} {z : Int} (h : Bd a z) : Bd a (-z) := ⟨by rw [Int.natAbs_neg]; exact h.le⟩
theorem Bd.mono {a b : Nat} {z : Int} (h : Bd a z) (k : a ≤ b) : Bd b z := ⟨Nat.le_trans h.le (Nat.mul_le_mul_right _ k)⟩
theorem Bd.aZ {x : Nat} (hx : F64 x) : Bd 1 (aZ x) := ⟨by rw [Nat.one_mul]; exact aZ_bd x hx⟩
theorem Bd.pZ {x y : Nat} (hx : F64 x) (hy : F64 y) : Bd 1 (pZ x y) := ⟨by rw [Nat.one_mul]; exact pZ_bd x y hx hy⟩
theorem pw_key (n : Nat) : (9223372036854775808 : Int) * PW n = ((2 ^ 63 * 2 ^ (64 * n) : Nat) : Int) := by
  rw [PW_nat, Int.natCast_mul]; rfl
theorem pow_key2 (a b c d : Nat) (h : a + b < c + d) : 2 ^ a * 2 ^ b < 2 ^ c * 2 ^ d := by
  rw [← Nat.pow_add, ← Nat.pow_add]
  exact Nat.pow_lt_pow_right (by decide) h
theorem bd_key : ∃ H : Nat, 2 ^ 150 * bigB < H ∧ (9223372036854775808 : Int) * PW 67 = (H : Int) := by
  obtain ⟨c, hc⟩ : ∃ c, c = 4200 := ⟨_, rfl⟩
  obtain ⟨n, hn⟩ : ∃ n, n = 67 := ⟨_, rfl⟩
  rw [bigB_ge c hc, show PW 67 = PW n by rw [hn]]
  exact ⟨_, pow_key2 150 c 63 (64 * n) (by omega), pw_key n⟩
theorem Bd.accB {k : Nat} {z : Int} (h : Bd k z) (hk : k ≤ 2 ^ 150) : AccB z := by
  obtain ⟨H, h1, h2⟩ := bd_key
  have h3 : z.natAbs < H := Nat.lt_of_le_of_lt (Nat.le_trans h.le (Nat.mul_le_mul_right _ hk)) h1
  unfold AccB
  rw [h2]
  clear h1 h2 hk h
  omega
theorem zS_bd : ∀ l : List Nat, (∀ i, F64 (l.getD i 0)) → Bd l.length (zS l)
  | [], _ => Bd.zero _
  | x :: l, h => by
    have h1 := zS_bd l fun i => by have := h (i + 1); simpa using this
    have h2 := Bd.aZ (h 0)
    have := h1.add h2
    rw [show zS (x :: l) = zS l + aZ x from Int.add_comm _ _]
    simpa using this
theorem zD_bd : ∀ l m : List Nat, (∀ i, F64 (l.getD i 0)) → (∀ i, F64 (m.getD i 0)) → Bd l.length (zD l m)
  | [], _, _, _ => by unfold zD; exact Bd.zero _
  | x :: l, [], _, _ => by unfold zD; exact Bd.zero _
  | x :: l, y :: m, h, h' => by
    have h1 := zD_bd l m (fun i => by have := h (i + 1); simpa using this) (fun i => by have := h' (i + 1); simpa using this)
    have h2 := Bd.pZ (h 0) (h' 0)
    have := h1.add h2
    rw [show zD (x :: l) (y :: m) = zD l m + pZ x y from Int.add_comm _ _]
    simpa using this
theorem zS_accB {w : World} {a : Option Addr} {l : List Nat} (h : Fls w a l) (hl : l.length ≤ 1000) : AccB (zS l) :=
  (zS_bd l h.wf).accB (Nat.le_trans hl (Nat.le_of_lt (Nat.lt_of_lt_of_le (show 1000 < 2 ^ 10 by decide) (Nat.pow_le_pow_right (by decide) (by decide)))))
theorem zD_accB {w w' : World} {a a' : Option Addr} {l m : List Nat} (h : Fls w a l) (h' : Fls w' a' m) (hl : l.length ≤ 1000) : AccB (zD l m) :=
  (zD_bd l m h.wf h'.wf).accB (Nat.le_trans hl (Nat.le_of_lt (Nat.lt_of_lt_of_le (show 1000 < 2 ^ 10 by decide) (Nat.pow_le_pow_right (by decide) (by decide)))))

theorem a3_1 : overA (0 + aZ 4607182418800017408) (false || upB 4607182418800017408) (false || dnB 4607182418800017408) 3 = 4599676419421066581 := by decide +kernel
theorem a3_2 : overA (zD [4607182418800017408, 4611686018427387904] [4613937818241073152, 4616189618054758400]) (uD [4607182418800017408, 4611686018427387904] [4613937818241073152, 4616189618054758400]) (dD [4607182418800017408, 4611686018427387904] [4613937818241073152, 4616189618054758400]) 1 = 4622382067542392832 := by decide +kernel
theorem a3_3 : overA (zS [4607182418800017408, 4336966441157787648, 13830554455654793216]) (uS [4607182418800017408, 4336966441157787648, 13830554455654793216]) (dS [4607182418800017408, 4336966441157787648, 13830554455654793216]) 1 = 4336966441157787648 := by decide +kernel
theorem a3_4 : leftF [4607182418800017408, 4611686018427387904] = 4613937818241073152 ∧ nn 4613937818241073152 = false := by decide +kernel
theorem a3_5 : pairF 3 [4607182418800017408, 4611686018427387904] = 4613937818241073152 := by decide +kernel
theorem a3_6 : kahF [4607182418800017408, 4611686018427387904] = 4613937818241073152 := by decide +kernel

end Go.Proofs.Yteikihidblcljaa

/- The walk of tenorlaw3.awake. -/
namespace Go.Proofs.Yteikihidblcljaa
open Go.RowKit
set_option linter.unusedSimpArgs false
set_option linter.unusedVariables false

theorem F64_two : Hd (F64 4607182418800017408 ∧ F64 4611686018427387904 ∧ F64 4613937818241073152 ∧ F64 4616189618054758400 ∧ F64 4336966441157787648 ∧ F64 13830554455654793216) := ⟨⟨by decide⟩, ⟨by decide⟩, ⟨by decide⟩, ⟨by decide⟩, ⟨by decide⟩, ⟨by decide⟩⟩
theorem World.alloc_size_le (w : World) (o : Obj) : w.heap.size ≤ (w.alloc o).heap.size := ((Below.refl w.heap.size w).alloc (Nat.le_refl _) o).size

theorem dot_lit (w : World) (t : TypeId) (c c' : Nat) : Calls Try.prog 47 #[.slice (some ⟨w.heap.size, 0, none⟩) 2 c, .slice (some ⟨w.heap.size + 1, 0, none⟩) 2 c'] ((w.alloc (.cells #[.float .f64 4607182418800017408, .float .f64 4611686018427387904] t)).alloc (.cells #[.float .f64 4613937818241073152, .float .f64 4616189618054758400] t)) fun e w' => e = .returned (.tuple #[.float .f64 4622382067542392832, .bool true]) ∧ Below w.heap.size w w' := by
  have h1 := fls_two w _ _ t F64_two.out.1 F64_two.out.2.1
  have h2 := fls_two (w.alloc (.cells #[.float .f64 4607182418800017408, .float .f64 4611686018427387904] t)) _ _ t F64_two.out.2.2.1 F64_two.out.2.2.2.1
  have h3 : (w.alloc (.cells #[.float .f64 4607182418800017408, .float .f64 4611686018427387904] t)).heap.size = w.heap.size + 1 := by go_simp
  rw [h3] at h2
  have h4 := h1.belowK (w' := (w.alloc (.cells #[.float .f64 4607182418800017408, .float .f64 4611686018427387904] t)).alloc (.cells #[.float .f64 4613937818241073152, .float .f64 4616189618054758400] t)) ((Below.refl _ _).alloc (Nat.le_refl _) _)
  have := dot_any _ [4607182418800017408, 4611686018427387904] c _ [4613937818241073152, 4616189618054758400] c' _ h4 h2 rfl (zD_accB h4 h2 (by decide))
  rw [a3_2] at this
  refine this.mono ?_
  rintro e w' ⟨rfl, hB⟩
  exact ⟨rfl, ((((Below.refl w.heap.size w).alloc (Nat.le_refl _) _).alloc (World.alloc_size_le _ _) _)).trans (hB.mono (Nat.le_trans (World.alloc_size_le _ _) (World.alloc_size_le _ _)))⟩
theorem sum_lit (w : World) (t : TypeId) (c : Nat) : Calls Try.prog 48 #[.slice (some ⟨w.heap.size, 0, none⟩) 3 c] (w.alloc (.cells #[.float .f64 4607182418800017408, .float .f64 4336966441157787648, .float .f64 13830554455654793216] t)) fun e w' => e = .returned (.float .f64 4336966441157787648) ∧ Below w.heap.size w w' := by
  have h1 := fls_three w _ _ _ t F64_two.out.1 F64_two.out.2.2.2.2.1 F64_two.out.2.2.2.2.2
  have := sum_any _ [4607182418800017408, 4336966441157787648, 13830554455654793216] c _ h1 (zS_accB h1 (by decide))
  rw [a3_3] at this
  refine this.mono ?_
  rintro e w' ⟨rfl, hB⟩
  exact ⟨rfl, ((Below.refl w.heap.size w).alloc (Nat.le_refl _) _).trans (hB.mono (World.alloc_size_le _ _))⟩
def LitRet (w : World) (e : Ending) (w' : World) : Prop := e = .returned (.float .f64 4613937818241073152) ∧ Below w.heap.size w w'
theorem lit_ret {w : World} {o : Obj} {e : Ending} {w' : World} (h : FRet 4613937818241073152 (w.alloc o) e w') : LitRet w e w' := by
  obtain ⟨r, n, rfl, hr, hc, rfl⟩ := h
  obtain rfl := of_cn hc a3_4.2
  exact ⟨rfl, below_drewN ((Below.refl w.heap.size w).alloc (Nat.le_refl _) _) _⟩
theorem left_lit (w : World) (t : TypeId) (c : Nat) : Calls Try.prog 49 #[.slice (some ⟨w.heap.size, 0, none⟩) 2 c] (w.alloc (.cells #[.float .f64 4607182418800017408, .float .f64 4611686018427387904] t)) (LitRet w) := by
  have h1 := left_any _ [4607182418800017408, 4611686018427387904] c _ (fls_two w _ _ t F64_two.out.1 F64_two.out.2.1)
  rw [a3_4.1] at h1
  exact h1.mono fun e w' h => lit_ret h
theorem pair_lit (w : World) (t : TypeId) (c : Nat) (h2 : 2 ≤ c) (h3 : c ≤ 9223372036854775807) : Calls Try.prog 50 #[.slice (some ⟨w.heap.size, 0, none⟩) 2 c] (w.alloc (.cells #[.float .f64 4607182418800017408, .float .f64 4611686018427387904] t)) (LitRet w) := by
  have h1 := pair_any 2 _ [4607182418800017408, 4611686018427387904] c _ (by decide) h2 h3 (fls_two w _ _ t F64_two.out.1 F64_two.out.2.1)
  rw [a3_5] at h1
  exact h1.mono fun e w' h => lit_ret h
theorem kahan_lit (w : World) (t : TypeId) (c : Nat) : Calls Try.prog 51 #[.slice (some ⟨w.heap.size, 0, none⟩) 2 c] (w.alloc (.cells #[.float .f64 4607182418800017408, .float .f64 4611686018427387904] t)) (LitRet w) := by
  have h1 := kahan_any _ [4607182418800017408, 4611686018427387904] c _ (fls_two w _ _ t F64_two.out.1 F64_two.out.2.1)
  rw [a3_6] at h1
  exact h1.mono fun e w' h => lit_ret h
theorem over_lit (b : Nat) (w : World) (h : AccIs w b (0 + aZ 4607182418800017408) (false || upB 4607182418800017408) (false || dnB 4607182418800017408)) :
    Calls Try.prog 20 #[.pointer (some ⟨b, 0, none⟩), .int .i64 3] w fun e w' => e = .returned (.tuple #[.float .f64 4599676419421066581, .bool true]) ∧ Below w.heap.size w w' := by
  have := over_any b _ _ _ 3 (by decide) (by decide) w h (((Bd.zero 1).add (Bd.aZ F64_two.out.1)).accB (Nat.le_trans (show 1 + 1 ≤ 2 ^ 2 by decide) (Nat.pow_le_pow_right (by decide) (by decide))))
  rwa [a3_1] at this

set_option maxHeartbeats 1600000 in
set_option maxRecDepth 100000 in
theorem awake3_any (w : World) :
    Calls Try.prog 8 #[] w fun e w' => e = .returned (.bool true) ∧ Below w.heap.size w w' := by
  have o1 : (FloatKind.f64.format.order 4599676419421066581 4599676419421066581 == some .eq) = true := by decide +kernel
  have o2 : (FloatKind.f64.format.order 4622382067542392832 4622382067542392832 == some .eq) = true := by decide +kernel
  have o3 : (FloatKind.f64.format.order 4336966441157787648 4336966441157787648 == some .eq) = true := by decide +kernel
  have o4 : (FloatKind.f64.format.order 4613937818241073152 4613937818241073152 == some .eq) = true := by decide +kernel
  go_enter Try.func8, Try.ntmps8
  go_wp2_with fail
  refine (new_any _).mono ?_; rintro en w1 ⟨b, rfl, hb, hA, hB⟩
  have B1 := Hd.mk hB
  have A1 := Hd.mk hA
  have L1 := Hd.mk hb
  clear hb hA hB
  go_wp2_with fail
  refine (accAdd_any b _ _ _ _ _ A1.out F64_two.out.1).mono ?_; rintro en w2 ⟨rfl, hA, hO⟩
  have B2 := Hd.mk (Only.below B1.out L1.out hO B1.out.size)
  have A2 := Hd.mk hA
  clear hA hO
  go_wp2_with fail
  refine (over_lit b _ A2.out).mono ?_
  rintro en w3 ⟨rfl, hB⟩
  have B3 := Hd.mk (B2.out.trans (hB.mono B2.out.size))
  clear hB
  go_wp2_with fail
  refine (dot_lit _ _ _ _).mono ?_
  rintro en w4 ⟨rfl, hB⟩
  have B4 := Hd.mk (B3.out.trans (hB.mono B3.out.size))
  clear hB
  go_wp2_with fail
  refine (sum_lit _ _ _).mono ?_
  rintro en w5 ⟨rfl, hB⟩
  have B5 := Hd.mk (B4.out.trans (hB.mono B4.out.size))
  clear hB
  go_wp2_with fail
  refine (left_lit _ _ _).mono ?_
  rintro en w6 ⟨rfl, hB⟩
  have B6 := Hd.mk (B5.out.trans (hB.mono B5.out.size))
  clear hB
  go_wp2_with fail
  refine (pair_lit _ _ _ (by decide) (by decide)).mono ?_
  rintro en w7 ⟨rfl, hB⟩
  have B7 := Hd.mk (B6.out.trans (hB.mono B6.out.size))
  clear hB
  go_wp2_with fail
  refine (kahan_lit _ _ _).mono ?_
  rintro en w8 ⟨rfl, hB⟩
  have B8 := Hd.mk (B7.out.trans (hB.mono B7.out.size))
  clear hB
  go_wp2_with fail
  go_ret
  exact ⟨rfl, B8.out⟩

end Go.Proofs.Yteikihidblcljaa
