/- Put together out of several texts: Le Sj Sk Sl Sm Ew Ex Lw Pn Aw A4 Pq Ae. -/
import Derived.Test.YteikihidblcljaaM3
import Derived.Test.YteikihidblcljaaM1
import Derived.Test.YteikihidblcljaaM5
import Derived.Test.YteikihidblcljaaM2
import Derived.Test.YteikihidblcljaaM4
import Derived.Shelf.Strconv.Itoa0
import Derived.Lib.MinMax
import Derived.Laws.OwnMore

/- bits.Len64 by the shelf's contract (written by the kit's lay-plain.mjs, turned into a template), in my own word bl. -/
namespace Go.Proofs.Yteikihidblcljaa
open Go.Shelf
def lays129_ren : Go.Shelf.Ren := ⟨fun | 129 => 115 | n => n, fun | 53 => 39 | 3 => 3 | 4 => 4 | 46 => 149 | 5 => 5 | 9 => 9 | n => n, fun | n => n⟩
theorem lays129 : Go.Proofs.Lays.n129 Try.prog lays129_ren := {
  mixed := by kernel_rfl
  f129 := Try.func115.trans (congrArg some (by kernel_rfl))
  t3 := Try.underlying3
  a3 := Try.isAgg3
  z3 := Try.sizeOf3
  v3 := Try.zeroValue3
  t4 := Try.underlying4
  a4 := Try.isAgg4
  z4 := Try.sizeOf4
  v4 := Try.zeroValue4
  t5 := Try.underlying5
  a5 := Try.isAgg5
  z5 := Try.sizeOf5
  v5 := Try.zeroValue5
  t9 := Try.underlying9
  a9 := Try.isAgg9
  z9 := Try.sizeOf9
  v9 := Try.zeroValue9
  t46 := Try.underlying149
  a46 := Try.isAgg149
  z46 := Try.sizeOf149
  v46 := Try.zeroValue149
  t53 := Try.underlying39
  a53 := Try.isAgg39
  z53 := Try.sizeOf39
  v53 := Try.zeroValue39 }

theorem bitLenAux_bl : ∀ (f x : Nat), x < 2 ^ f → Lib.bitLenAux f x = bl x
  | 0, x, h => by
    obtain rfl : x = 0 := by have : x < 1 := h; omega
    rfl
  | f + 1, x, h => by
    unfold Lib.bitLenAux
    by_cases h0 : x = 0
    · rw [if_pos h0, h0]; rfl
    · rw [if_neg h0, bitLenAux_bl f (x / 2) (by rw [Nat.pow_succ] at h; omega), bl_half h0, Nat.add_comm]

theorem len64_any (x : Nat) (h : x < 18446744073709551616) (w : World) :
    Calls Try.prog 115 #[.int .u64 x] w fun e w' => e = .returned (.int .i64 (bl x)) ∧ w = w' := by
  refine (Any.bits_Len64 lays129 (x : Int) w (by omega) (by omega)).mono ?_
  rintro e w' ⟨rfl, rfl⟩
  exact ⟨by rw [Int.toNat_natCast]; unfold Lib.bitLen; rw [bitLenAux_bl 64 x h], rfl⟩

end Go.Proofs.Yteikihidblcljaa

/- The walks of ieee.Split, rounded, Join and of math.Ldexp at whole numbers. -/
namespace Go.Proofs.Yteikihidblcljaa
open Go.RowKit
set_option linter.unusedSimpArgs false
set_option linter.unusedVariables false

set_option maxHeartbeats 1600000 in
theorem split_zero (x : Nat) (hx : F64 x) (h : mg x = 0) (w : World) :
    Calls Try.prog 52 #[.float .f64 x] w fun e w' => e = .returned (.tuple #[.int .i64 0, .int .i64 0, .bool true]) ∧ w = w' := by
  have hc : (cls x == 1) = true := by unfold cls; rw [if_pos h]; rfl
  clear h
  go_enter Try.func52, Try.ntmps52
  go_wp2_with (first | (go_at_call 101; refine (size_any _ hx _).mono ?_; rintro e w' ⟨rfl, rfl⟩) | (go_at_call 82; refine (class_any _ hx _).mono ?_; rintro e w' ⟨rfl, rfl⟩))
  go_ret3
  exact ⟨rfl, rfl⟩

theorem fin_cls (x : Nat) (h : fin x = true) (h0 : mg x ≠ 0) : (cls x == 1) = false ∧ ((mg x < 4503599627370496 ∧ (cls x == 2) = true) ∨ (4503599627370496 ≤ mg x ∧ (cls x == 2) = false ∧ (cls x == 3) = true)) := by
  unfold fin at h
  simp at h
  unfold cls
  rw [if_neg h0]
  by_cases h1 : mg x < 4503599627370496
  · rw [if_pos h1]; exact ⟨rfl, .inl ⟨h1, rfl⟩⟩
  · rw [if_neg h1, if_pos h]; exact ⟨rfl, .inr ⟨by omega, rfl, rfl⟩⟩
theorem nfin_cls (x : Nat) (h : fin x = false) : (cls x == 1) = false ∧ (cls x == 2) = false ∧ (cls x == 3) = false := by
  unfold fin INF at h
  simp at h
  unfold cls INF
  rw [if_neg (by omega), if_neg (by omega), if_neg (by omega)]
  split <;> exact ⟨rfl, rfl, rfl⟩

set_option maxHeartbeats 1600000 in
theorem split_none (x : Nat) (hx : F64 x) (h : fin x = false) (w : World) :
    Calls Try.prog 52 #[.float .f64 x] w fun e w' => e = .returned (.tuple #[.int .i64 0, .int .i64 0, .bool false]) ∧ w = w' := by
  obtain ⟨h1, h2, h3⟩ := nfin_cls x h
  clear h
  go_enter Try.func52, Try.ntmps52
  go_wp2_with (first | (go_at_call 101; refine (size_any _ hx _).mono ?_; rintro e w' ⟨rfl, rfl⟩) | (go_at_call 82; refine (class_any _ hx _).mono ?_; rintro e w' ⟨rfl, rfl⟩))
  go_ret3
  exact ⟨rfl, rfl⟩

theorem mg_and (m : Nat) (h : m < 9223372036854775808) : bits .and .u64 (m : Int) 4503599627370495 = ((m % 4503599627370496 : Nat) : Int) := by
  have := u64_and_nat m 4503599627370495 (by omega) (by decide)
  rw [show ((4503599627370495 : Nat) : Int) = 4503599627370495 from rfl] at this
  rw [this]
  show ((m &&& (2 ^ 52 - 1) : Nat) : Int) = _
  rw [Nat.and_two_pow_sub_one_eq_mod]
theorem low_or (r : Nat) (h : r < 4503599627370496) : bits .or .u64 (r : Int) 4503599627370496 = ((4503599627370496 + r : Nat) : Int) := by
  rw [show (4503599627370496 : Int) = ((4503599627370496 : Nat) : Int) from rfl, u64_or_nat r 4503599627370496 (by omega) (by decide), Nat.or_comm, nat_join 52 4503599627370496 r (by decide) h]

/-- What Split tells of a number. -/
def spM (x : Nat) : Int := if ng x then -(mnt x : Int) else mnt x
theorem ret3_int {a b c d : Int} {v : Value} (h : a = b) (h' : c = d) : Ending.returned (.tuple #[.int .i64 a, .int .i64 c, v]) = .returned (.tuple #[.int .i64 b, .int .i64 d, v]) := by rw [h, h']

set_option maxHeartbeats 3200000 in
theorem split_num (x : Nat) (hx : F64 x) (h : fin x = true) (h0 : mg x ≠ 0) (w : World) :
    Calls Try.prog 52 #[.float .f64 x] w fun e w' => e = .returned (.tuple #[.int .i64 (spM x), .int .i64 (exq x), .bool true]) ∧ w = w' := by
  obtain ⟨h1, h2⟩ := fin_cls x h h0
  have HN := Hd.mk (nn_fin x h)
  have hl := mg_lt x
  rcases h2 with ⟨h3, h4⟩ | ⟨h3, h4, h5⟩
  · have hm : mnt x = mg x := by unfold mnt; rw [if_pos h3]
    have he : Hd (-1074 = exq x) := ⟨by unfold exq; rw [if_pos h3]⟩
    have b0 : (0 : Int) ≤ mg x := by omega
    have b1 : (mg x : Int) < 4503599627370496 := by omega
    cases hg : ng x
    · have HM : Hd ((mg x : Int) = spM x) := ⟨by unfold spM; rw [hg, hm]; rfl⟩
      clear h h0 h3 hm hl
      go_enter Try.func52, Try.ntmps52
      go_wp2_with (first | (go_at_call 101; refine (size_any _ hx _).mono ?_; rintro e w' ⟨rfl, rfl⟩) | (go_at_call 82; refine (class_any _ hx _).mono ?_; rintro e w' ⟨rfl, rfl⟩) | (go_at_call 102; refine (negative_any _ hx HN.out _).mono ?_; rintro e w' ⟨rfl, rfl⟩))
      go_ret3
      exact ⟨ret3_int HM.out he.out, rfl⟩
    · have HM : Hd (-(mg x : Int) = spM x) := ⟨by unfold spM; rw [hg, hm]; rfl⟩
      clear h h0 h3 hm hl
      go_enter Try.func52, Try.ntmps52
      go_wp2_with (first | (go_at_call 101; refine (size_any _ hx _).mono ?_; rintro e w' ⟨rfl, rfl⟩) | (go_at_call 82; refine (class_any _ hx _).mono ?_; rintro e w' ⟨rfl, rfl⟩) | (go_at_call 102; refine (negative_any _ hx HN.out _).mono ?_; rintro e w' ⟨rfl, rfl⟩))
      go_ret3
      exact ⟨ret3_int HM.out he.out, rfl⟩
  · have hm : mnt x = 4503599627370496 + mg x % 4503599627370496 := by unfold mnt; rw [if_neg (by omega)]
    have a1 := mg_and (mg x) hl
    have lr : mg x % 4503599627370496 < 4503599627370496 := Nat.mod_lt _ (by decide)
    have a2 := low_or _ lr
    have lq : mg x / 4503599627370496 < 2048 := by omega
    have lq0 : 1 ≤ mg x / 4503599627370496 := by omega
    have a3 : (mg x : Int) / 4503599627370496 = ((mg x / 4503599627370496 : Nat) : Int) := rfl
    have he : Hd (((mg x / 4503599627370496 : Nat) : Int) - 1075 = exq x) := ⟨by unfold exq; rw [if_neg (by omega)]; omega⟩
    have HM : Hd ((ng x = false → ((4503599627370496 + mg x % 4503599627370496 : Nat) : Int) = spM x) ∧ (ng x = true → -((4503599627370496 + mg x % 4503599627370496 : Nat) : Int) = spM x)) := ⟨by
      unfold spM; rw [hm]
      constructor <;> intro hg <;> rw [hg] <;> rfl⟩
    clear h h0 hm h3
    generalize mg x % 4503599627370496 = R at *
    generalize hq : mg x / 4503599627370496 = Q at *
    obtain ⟨K, hK⟩ : ∃ K, 4503599627370496 + R = K := ⟨_, rfl⟩
    rw [hK] at a2 HM
    have hK2 : (0 : Int) ≤ K := by omega
    have hK3 : (K : Int) < 9007199254740992 := by omega
    clear hK hq
    cases hg : ng x
    · have HM2 := Hd.mk (HM.out.1 hg)
      go_enter Try.func52, Try.ntmps52
      go_wp2_with (first | (go_at_call 101; refine (size_any _ hx _).mono ?_; rintro e w' ⟨rfl, rfl⟩) | (go_at_call 82; refine (class_any _ hx _).mono ?_; rintro e w' ⟨rfl, rfl⟩) | (go_at_call 102; refine (negative_any _ hx HN.out _).mono ?_; rintro e w' ⟨rfl, rfl⟩))
      go_ret3
      exact ⟨ret3_int HM2.out he.out, rfl⟩
    · have HM2 := Hd.mk (HM.out.2 hg)
      go_enter Try.func52, Try.ntmps52
      go_wp2_with (first | (go_at_call 101; refine (size_any _ hx _).mono ?_; rintro e w' ⟨rfl, rfl⟩) | (go_at_call 82; refine (class_any _ hx _).mono ?_; rintro e w' ⟨rfl, rfl⟩) | (go_at_call 102; refine (negative_any _ hx HN.out _).mono ?_; rintro e w' ⟨rfl, rfl⟩))
      go_ret3
      exact ⟨ret3_int HM2.out he.out, rfl⟩

end Go.Proofs.Yteikihidblcljaa

/- The walks of ieee.rounded, math.Ldexp at whole numbers, ieee.Join. -/
namespace Go.Proofs.Yteikihidblcljaa
open Go.RowKit
set_option linter.unusedSimpArgs false
set_option linter.unusedVariables false

set_option maxHeartbeats 1600000 in
theorem jround_mid (u k : Nat) (hu : u < 18446744073709551616) (hk : k ≤ 62) (w : World) :
    Calls Try.prog 150 #[.int .u64 u, .int .i64 ((k : Int) + 1)] w fun e w' => e = .returned (.int .u64 (rh u (k + 1) false)) ∧ ∃ n, w' = w.drewN n := by
  have k0 : (0 : Int) ≤ k := by omega
  have k1 : (k : Int) ≤ 62 := by omega
  have W := rh_ways u k
  have p0 : (2 : Int) ^ k = ((2 ^ k : Nat) : Int) := by rw [Int.natCast_pow]; rfl
  have p1 : (2 : Int) ^ (k + 1) = ((2 ^ (k + 1) : Nat) : Int) := by rw [Int.natCast_pow]; rfl
  have a1 : bits .and .u64 (u : Int) (((2 ^ (k + 1) : Nat) : Int) - 1) = ((u % 2 ^ (k + 1) : Nat) : Int) := by
    have hp : 0 < 2 ^ (k + 1) := Nat.pow_pos (by decide)
    have hp2 : 2 ^ (k + 1) ≤ 2 ^ 63 := Nat.pow_le_pow_right (by decide) (by omega)
    have := u64_and_nat u (2 ^ (k + 1) - 1) hu (Nat.lt_of_le_of_lt (Nat.sub_le _ _) (Nat.lt_of_le_of_lt hp2 (by decide)))
    rw [show ((2 ^ (k + 1) - 1 : Nat) : Int) = ((2 ^ (k + 1) : Nat) : Int) - 1 by omega] at this
    rw [this, Nat.and_two_pow_sub_one_eq_mod]
  have d1 : (u : Int) / ((2 ^ (k + 1) : Nat) : Int) = ((u / 2 ^ (k + 1) : Nat) : Int) := rfl
  have hp0 : 0 < 2 ^ k := Nat.pow_pos (by decide)
  have hp1 : 2 ^ k ≤ 2 ^ 62 := Nat.pow_le_pow_right (by decide) hk
  have hp2 : 2 ^ (k + 1) = 2 * 2 ^ k := Nat.pow_succ'
  have hQ : u / 2 ^ (k + 1) ≤ u / 2 := by rw [hp2, ← Nat.div_div_eq_div_mul]; exact Nat.div_le_self _ _
  have lR : u % 2 ^ (k + 1) < 2 ^ (k + 1) := Nat.mod_lt _ (Nat.pow_pos (by decide))
  rw [show (2 : Nat) ^ 62 = 4611686018427387904 by decide] at hp1
  generalize rh u (k + 1) false = Z at *
  generalize u % 2 ^ (k + 1) = R at *
  generalize u / 2 ^ (k + 1) = Q at *
  generalize 2 ^ (k + 1) = S1 at *
  generalize 2 ^ k = S0 at *
  have hp3 : (1 : Int) ≤ S0 := by omega
  have hp4 : (S0 : Int) ≤ 4611686018427387904 := by omega
  have hp5 : (1 : Int) ≤ S1 := by omega
  have hp6 : (S1 : Int) ≤ 9223372036854775808 := by omega
  have hq1 : (0 : Int) ≤ Q := by omega
  have hq2 : (Q : Int) ≤ 9223372036854775808 := by omega
  have a2 : bits .and .u64 (Q : Int) 1 = ((Q % 2 : Nat) : Int) := by
    have := u64_and_nat Q 1 (by omega) (by decide)
    rw [show ((1 : Nat) : Int) = 1 from rfl] at this
    rw [this, show Q &&& 1 = Q &&& (2 ^ 1 - 1) from rfl, Nat.and_two_pow_sub_one_eq_mod]
  rcases (by omega : S0 < R ∨ R < S0 ∨ R = S0) with h | h | h
  · have HZ : Hd (((Q : Int) + 1) = Z) := ⟨by have := W.1 h; omega⟩
    have t1 : (S0 : Int) < R := by omega
    clear W hp2 lR h hQ
    go_enter Try.func150, Try.ntmps150
    go_wp2
    go_quiet (fail)
    go_wp2
    go_ret
    exact ⟨ret_int HZ.out, nq, rfl⟩
  · have HZ : Hd ((Q : Int) = Z) := ⟨by have := W.2.2.2 h; omega⟩
    have t1 : decide ((S0 : Int) < R) = false := by simp; omega
    have t2 : ((R : Int) == S0) = false := by rw [beq_eq_false_iff_ne]; omega
    have t3 : decide (S0 < R) = false := by simp; omega
    have t4 : (R == S0) = false := by rw [beq_eq_false_iff_ne]; omega
    clear W hp2 lR h hQ
    go_enter Try.func150, Try.ntmps150
    go_wp2
    go_quiet (fail)
    go_wp2
    go_ret
    exact ⟨ret_int HZ.out, nq, rfl⟩
  · subst h
    have t1 : decide ((R : Int) < R) = false := by simp
    rcases (by omega : Q % 2 = 0 ∨ Q % 2 = 1) with h2 | h2
    · have HZ : Hd ((Q : Int) = Z) := ⟨by have := W.2.2.1 rfl h2; omega⟩
      rw [h2] at a2
      clear W hp2 lR h2 hQ
      go_enter Try.func150, Try.ntmps150
      go_wp2
      go_quiet (fail)
      go_wp2
      go_ret
      exact ⟨ret_int HZ.out, nq, rfl⟩
    · have HZ : Hd (((Q : Int) + 1) = Z) := ⟨by have := W.2.1 rfl h2; omega⟩
      rw [h2] at a2
      clear W hp2 lR h2 hQ
      go_enter Try.func150, Try.ntmps150
      go_wp2
      go_quiet (fail)
      go_wp2
      go_ret
      exact ⟨ret_int HZ.out, nq, rfl⟩

theorem rh_far (u k : Nat) (hu : u < 18446744073709551616) (hk : 65 ≤ k) : rh u k false = 0 := by
  have h1 : u < 2 ^ (k - 1) := Nat.lt_of_lt_of_le hu (by rw [show 18446744073709551616 = 2 ^ 64 by decide]; exact Nat.pow_le_pow_right (by decide) (by omega))
  have h2 : u < 2 ^ k := Nat.lt_of_lt_of_le h1 (Nat.pow_le_pow_right (by decide) (by omega))
  unfold rh
  rw [Nat.div_eq_of_lt h1, Nat.div_eq_of_lt h2]; rfl
theorem rh_64 (u : Nat) (hu : u < 18446744073709551616) : rh u 64 false = if 9223372036854775808 < u then 1 else 0 := by
  have W := rh_ways u 63
  rw [show 63 + 1 = 64 by decide, show (2 : Nat) ^ 64 = 18446744073709551616 by decide, show (2 : Nat) ^ 63 = 9223372036854775808 by decide, Nat.mod_eq_of_lt hu, Nat.div_eq_of_lt hu] at W
  by_cases h : 9223372036854775808 < u
  · rw [if_pos h]; exact W.1 h
  · rw [if_neg h]
    by_cases h2 : u = 9223372036854775808
    · exact W.2.2.1 h2 rfl
    · exact W.2.2.2 (by omega)

theorem jround_any (u : Nat) (q : Int) (hu : u < 18446744073709551616) (h0 : 0 ≤ q) (h1 : q ≤ 100000) (w : World) :
    Calls Try.prog 150 #[.int .u64 u, .int .i64 q] w fun e w' => e = .returned (.int .u64 ((if q = 0 then u else rh u q.toNat false : Nat) : Int)) ∧ ∃ n, w' = w.drewN n := by
  by_cases hz : q = 0
  · subst hz
    rw [if_pos rfl]
    go_enter Try.func150, Try.ntmps150
    go_wp2
    go_ret
    exact ⟨rfl, 0, rfl⟩
  · rw [if_neg hz]
    by_cases hb : 64 < q
    · rw [rh_far u q.toNat hu (by omega)]
      clear hz
      go_enter Try.func150, Try.ntmps150
      go_wp2
      go_ret
      exact ⟨rfl, 0, rfl⟩
    · by_cases h6 : q = 64
      · subst h6
        rw [show (64 : Int).toNat = 64 from rfl, rh_64 u hu]
        by_cases hc : 9223372036854775808 < u
        · rw [if_pos hc]
          have t1 : (9223372036854775808 : Int) < u := by omega
          clear hc hb hz
          go_enter Try.func150, Try.ntmps150
          go_wp2
          go_ret
          exact ⟨rfl, 0, rfl⟩
        · rw [if_neg hc]
          have t1 : decide ((9223372036854775808 : Int) < u) = false := by simp; omega
          clear hc hb hz
          go_enter Try.func150, Try.ntmps150
          go_wp2
          go_ret
          exact ⟨rfl, 0, rfl⟩
      · obtain ⟨k, rfl⟩ : ∃ k : Nat, q = (k : Int) + 1 := ⟨(q - 1).toNat, by omega⟩
        rw [show ((k : Int) + 1).toNat = k + 1 by omega]
        exact jround_mid u k hu (by omega) w

end Go.Proofs.Yteikihidblcljaa

/- The walks of math.Ldexp at whole numbers and of ieee.Join. -/
namespace Go.Proofs.Yteikihidblcljaa
open Go.RowKit
set_option linter.unusedSimpArgs false
set_option linter.unusedVariables false

theorem row_pred (T R Y : Nat) (h : T * 4503599627370496 + R = Y) (h1 : 1 ≤ T) : (T - 1) * 4503599627370496 + (4503599627370496 + R) = Y := by
  obtain ⟨t, rfl⟩ : ∃ t, T = t + 1 := ⟨T - 1, by omega⟩
  rw [Nat.add_sub_cancel, ← h, Nat.add_mul, Nat.one_mul, Nat.add_assoc]
theorem row_parts' (M T Y : Nat) (h1 : 4503599627370496 ≤ M) (h2 : M < 9007199254740992) (hT : T ≤ 2045) (hY : T * 4503599627370496 + M = Y) :
    mnt Y = M ∧ exq Y = (T : Int) - 1074 ∧ fin Y = true ∧ ng Y = false ∧ F64 Y := by
  subst hY; exact row_parts M T h1 h2 hT
theorem ld_deep'' (M : Nat) (T Y : Nat) (h1 : 4503599627370496 ≤ M) (h2 : M < 9007199254740992) (hT : T ≤ 2045) (E : Int) (hE : E = (T : Int) - 1127) (hY : T * 4503599627370496 + M = Y) :
    dbl.mul 4368491638549381120 Y = some (dbl.nearest false M E) := by
  subst hY; exact ld_deep' M T h1 h2 hT E hE

/-- A row's word back out of its parts. -/
theorem word_row (x : Nat) (h : fin x = true) (hx : F64 x) : dbl.nearest (ng x) (mnt x) (exq x) = x := by
  have hf : mg x < 9218868437227405312 := by unfold fin INF at h; simpa using h
  have hw : ∀ r, r = mg x → dbl.word (ng x) r = x := by
    intro r hr
    subst hr
    unfold Ieee.Format.word
    rw [dbl_sw, mg_val]
    have := hx.out
    unfold ng
    split <;> rename_i h1 <;> simp at h1 <;> omega
  by_cases h0 : mnt x = 0
  · rw [h0]
    unfold Ieee.Format.nearest
    rw [if_pos rfl]
    exact hw 0 ((mnt_zero x).1 h0).symm
  · rw [nearest_rnd _ _ _ h0]
    refine hw _ ?_
    by_cases h1 : mg x < 4503599627370496
    · have a : mnt x = mg x := by unfold mnt; rw [if_pos h1]
      have b : exq x = -1074 := by unfold exq; rw [if_pos h1]
      rw [a, b, rnd_low _ (by omega)]; omega
    · have a : mnt x = 4503599627370496 + mg x % 4503599627370496 := by unfold mnt; rw [if_neg h1]
      have b : exq x = -1074 + (mg x / 4503599627370496 - 1 : Nat) := by unfold exq; rw [if_neg h1]
      rw [a, b, rnd_row _ _ (by omega) (by omega) (by omega)]; omega

theorem one_parts : mnt 4607182418800017408 = 4503599627370496 ∧ exq 4607182418800017408 = -52 ∧ fin 4607182418800017408 = true ∧ ng 4607182418800017408 = false ∧ F64 4607182418800017408 := by
  have := row_parts 4503599627370496 1022 (by decide) (by decide) (by decide)
  rw [show 1022 * 4503599627370496 + 4503599627370496 = 4607182418800017408 by decide] at this
  exact this

/-- 1 times a number. -/
theorem mul_one_l (x : Nat) (h : fin x = true) (hx : F64 x) : dbl.mul 4607182418800017408 x = some x := by
  obtain ⟨a, b, c, d, f⟩ := one_parts
  unfold Ieee.Format.mul
  rw [read_fin _ f c, read_fin _ hx h]
  simp only [Ieee.Datum.product, Option.map_some]
  rw [a, b, d, Bool.false_xor, write_num]
  congr 1
  by_cases h0 : mnt x = 0
  · have e := word_row x h hx
    rw [h0] at e
    rw [h0, Nat.mul_zero]
    unfold Ieee.Format.nearest at *
    rw [if_pos rfl] at *
    exact e
  · have := nearest_scale (ng x) (mnt x) 52 (exq x) h0
    rw [show (4503599627370496 : Nat) = 2 ^ 52 by decide, Nat.mul_comm, show (-52 : Int) + exq x = exq x - (52 : Nat) by omega, this]
    exact word_row x h hx

theorem fcnt_some {op : BinOp} {x y r : Nat} (h : floatBits op .f64 x y = some r) : fcnt op x y = 0 := by unfold fcnt; rw [h]

theorem pos_order (x y : Nat) (hx : x < 9218868437227405312) (hy : y < 9218868437227405312) :
    (FloatKind.f64.format.order x y == some .eq) = decide (x = y) ∧ (FloatKind.f64.format.order x y == some .lt) = decide (x < y) ∧ (FloatKind.f64.format.order x y == some .gt) = decide (y < x) := by
  have e : ∀ z, z < 9218868437227405312 → F64 z ∧ nn z = false ∧ rk z = z := fun z hz => by
    have hm := mg_small z (by omega)
    refine ⟨⟨by omega⟩, ?_, ?_⟩
    · unfold nn INF; rw [hm]; simp; omega
    · rw [rk_of_pos (ng_small z (by omega)), hm]
  obtain ⟨a1, a2, a3⟩ := e x hx
  obtain ⟨b1, b2, b3⟩ := e y hy
  rw [feq x y a1 b1, flt x y a1 b1, fgt x y a1 b1, a2, b2, a3, b3]
  refine ⟨?_, ?_, ?_⟩ <;> rw [Bool.eq_iff_iff] <;> simp <;> omega

theorem andNot_sign (x : Nat) (h : x < 9223372036854775808) : bits .andNot .u64 (x : Int) 9223372036854775808 = (x : Int) := by
  rw [bits_mg x ⟨by omega⟩, mg_small x h]
theorem andNot_exp (T R : Nat) (hR : R < 4503599627370496) (hT : T ≤ 2046) : bits .andNot .u64 ((T * 4503599627370496 + R : Nat) : Int) 9218868437227405312 = (R : Int) := by
  have := u64_andNot_nat (T * 4503599627370496 + R) 9218868437227405312 (by omega) (by decide)
  rw [show ((9218868437227405312 : Nat) : Int) = 9218868437227405312 from rfl] at this
  rw [this]
  congr 1
  rw [show 18446744073709551615 - 9218868437227405312 = 9223372036854775808 ||| (2 ^ 52 - 1) by decide, Nat.and_or_distrib_left, Nat.and_two_pow_sub_one_eq_mod]
  rw [show (2 : Nat) ^ 52 = 4503599627370496 by decide, show (T * 4503599627370496 + R) % 4503599627370496 = R by omega]
  rw [show (9223372036854775808 : Nat) = 2 ^ 63 by decide]
  have : (T * 4503599627370496 + R) &&& 2 ^ 63 = 0 := by
    have h1 : T * 4503599627370496 + R < 2 ^ 63 := by rw [show (2 : Nat) ^ 63 = 9223372036854775808 by decide]; omega
    generalize T * 4503599627370496 + R = x at *
    have h2 : x &&& (2 ^ 63 - 1) = x := by rw [Nat.and_two_pow_sub_one_eq_mod, Nat.mod_eq_of_lt h1]
    rw [← h2, Nat.and_assoc, show (2 ^ 63 - 1) &&& 2 ^ 63 = 0 by decide, Nat.and_zero]
  rw [this, Nat.zero_or]
theorem and_2047 (n : Nat) (h : n ≤ 2047) : bits .and .i64 (n : Int) 2047 = (n : Int) := by
  have h127 : (BitVec.ofInt 64 2047).toNat = 2 ^ 11 - 1 := by decide
  have key : (BitVec.ofInt 64 (n : Int) &&& BitVec.ofInt 64 2047).toNat = ((n : Int) % ((2 ^ 64 : Nat) : Int)).toNat % 2 ^ 11 := by
    rw [BitVec.toNat_and, BitVec.toNat_ofInt, h127, Nat.and_two_pow_sub_one_eq_mod]
  show IntKind.i64.wrap ((BitVec.ofInt 64 (n : Int) &&& BitVec.ofInt 64 2047).toNat : Nat) = (n : Int)
  rw [key, IntKind.wrap_i64]
  omega
theorem or_exp (T R : Nat) (hR : R < 4503599627370496) (hT : T ≤ 2046) : bits .or .u64 (R : Int) ((T : Int) * 4503599627370496) = ((T * 4503599627370496 + R : Nat) : Int) := by
  rw [show (T : Int) * 4503599627370496 = ((T * 4503599627370496 : Nat) : Int) by omega, u64_or_nat R (T * 4503599627370496) (by omega) (by omega), Nat.or_comm]
  have := nat_join 52 (T * 4503599627370496) R (by rw [show (2 : Nat) ^ 52 = 4503599627370496 by decide]; omega) hR
  rw [this]

set_option maxHeartbeats 3200000 in
theorem ldexp_0 (E : Int) (w : World) :
    Calls Try.prog 116 #[.float .f64 0, .int .i64 E] w fun e w' => e = .returned (.float .f64 0) ∧ w = w' := by
  have o := (pos_order 0 0 (by decide) (by decide)).1
  go_enter Try.func116, Try.ntmps116
  go_wp2
  go_ret
  exact ⟨rfl, rfl⟩

set_option maxHeartbeats 3200000 in
theorem ldexp_row (X L R : Nat) (E : Int) (hX : X = (L + 1023) * 4503599627370496 + R) (hR : R < 4503599627370496) (hL : L ≤ 53) (hE : -1074 ≤ E) (hE2 : E ≤ 100000) (w : World) :
    Calls Try.prog 116 #[.float .f64 X, .int .i64 E] w fun e w' => e = .returned (.float .f64 (dbl.nearest false (4503599627370496 + R) (E + L - 52))) ∧ w = w' := by
  have o1 : (FloatKind.f64.format.order X 0 == some .eq) = false := by rw [(pos_order X 0 (by omega) (by decide)).1]; simp; omega
  have o2 : (FloatKind.f64.format.order X 9218868437227405311 == some .gt) = false := by rw [(pos_order X 9218868437227405311 (by omega) (by decide)).2.2]; simp; omega
  have o3 : (FloatKind.f64.format.order X X == some .eq) = true := by rw [(pos_order X X (by omega) (by omega)).1]; simp
  have o3' : (FloatKind.f64.format.order X X != some .eq) = false := by rw [bne, o3]; rfl
  have o4 : (FloatKind.f64.format.order X 4503599627370496 == some .lt) = false := by rw [(pos_order X 4503599627370496 (by omega) (by decide)).2.1]; simp; omega
  have a1 := andNot_sign X (by omega)
  obtain ⟨P, hP⟩ : ∃ P, L + 1023 = P := ⟨_, rfl⟩
  obtain ⟨V, hV⟩ : ∃ V, E + (L : Int) = V := ⟨_, rfl⟩
  have d1 : (X : Int) / 4503599627370496 = (P : Int) := by omega
  have a2 := and_2047 P (by omega)
  have a3 := andNot_exp P R hR (by omega)
  rw [← hP, ← hX] at a3
  have b1 : (P : Int) - 1023 = L := by omega
  have b2 : (1023 : Int) ≤ P := by omega
  have b3 : (P : Int) ≤ 1076 := by omega
  have l0 : (0 : Int) ≤ L := by omega
  have l1 : (L : Int) ≤ 53 := by omega
  have v0 : -1074 ≤ V := by omega
  have v1 : V ≤ 200000 := by omega
  have t1 : decide (V < -1075) = false := by simp; omega
  rcases (by omega : 1023 < V ∨ (V ≤ 1023 ∧ -1022 ≤ V) ∨ V < -1022) with h | ⟨h, h'⟩ | h
  · have H : Hd (9218868437227405312 = dbl.nearest false (4503599627370496 + R) (E + L - 52)) := ⟨(nearest_over (4503599627370496 + R) (E + L - 52) (by omega) (by omega) (by omega)).symm⟩
    have o5 : (FloatKind.f64.format.order X 0 == some .lt) = false := by rw [(pos_order X 0 (by omega) (by decide)).2.1]; simp
    clear hX hR hP
    go_enter Try.func116, Try.ntmps116
    go_wp2
    go_ret
    exact ⟨ret_float H.out, rfl⟩
  · obtain ⟨T, hT⟩ : ∃ T : Nat, V + 1023 = (T : Int) := ⟨(V + 1023).toNat, by omega⟩
    have a4 := or_exp T R hR (by omega)
    obtain ⟨Y, hY⟩ : ∃ Y, T * 4503599627370496 + R = Y := ⟨_, rfl⟩
    rw [hY] at a4
    have hn : dbl.nearest false (4503599627370496 + R) (E + L - 52) = Y := by
      have e := nearest_row (4503599627370496 + R) (E + L - 52) (by omega) (by omega) (by omega) (by omega)
      omega
    have hYp := row_parts' (4503599627370496 + R) (T - 1) Y (by omega) (by omega) (by omega) (row_pred T R Y hY (by omega))
    have hm := mul_one_l Y hYp.2.2.1 hYp.2.2.2.2
    have H : Hd (∀ w, Ending.returned (.float .f64 (fres .mul 4607182418800017408 Y w)) = .returned (.float .f64 (dbl.nearest false (4503599627370496 + R) (E + L - 52))) ∧ w = w.drewN (fcnt .mul 4607182418800017408 Y)) := ⟨fun w => by
      rw [fres_some w (op := .mul) hm, fcnt_some (op := .mul) hm, hn]; exact ⟨rfl, rfl⟩⟩
    have t2 : decide (V < -1022) = false := by simp; omega
    have tb : (T : Int) ≤ 2046 := by omega
    have tb0 : (0 : Int) ≤ T := by omega
    have ty : (0 : Int) ≤ Y := by omega
    clear hX hR hP hY hn hYp hm
    go_enter Try.func116, Try.ntmps116
    go_wp2
    go_ret
    exact H.out w
  · obtain ⟨T, hT⟩ : ∃ T : Nat, V + 53 + 1023 = (T : Int) := ⟨(V + 53 + 1023).toNat, by omega⟩
    have a4 := or_exp T R hR (by omega)
    obtain ⟨Y, hY⟩ : ∃ Y, T * 4503599627370496 + R = Y := ⟨_, rfl⟩
    rw [hY] at a4
    have hm := ld_deep'' (4503599627370496 + R) (T - 1) Y (by omega) (by omega) (by omega) (E + L - 52) (by omega) (row_pred T R Y hY (by omega))
    have H : Hd (∀ w, Ending.returned (.float .f64 (fres .mul 4368491638549381120 Y w)) = .returned (.float .f64 (dbl.nearest false (4503599627370496 + R) (E + L - 52))) ∧ w = w.drewN (fcnt .mul 4368491638549381120 Y)) := ⟨fun w => by
      rw [fres_some w (op := .mul) hm, fcnt_some (op := .mul) hm]; exact ⟨rfl, rfl⟩⟩
    have tb : (T : Int) ≤ 2046 := by omega
    have tb0 : (0 : Int) ≤ T := by omega
    have ty : (0 : Int) ≤ Y := by omega
    clear hX hR hP hY hm
    go_enter Try.func116, Try.ntmps116
    go_wp2
    go_ret
    exact H.out w

end Go.Proofs.Yteikihidblcljaa

/- The walk of ieee.Join. -/
namespace Go.Proofs.Yteikihidblcljaa
open Go.RowKit
set_option linter.unusedSimpArgs false
set_option linter.unusedVariables false

@[go_sem high] theorem run_max_ints3 {P : Program} (w : World) (ts : Array TypeId) (t : TypeId) (k k' k'' : IntKind) (x y z : Int) :
    (Builtin.max_ ts t #[.int k x, .int k' y, .int k'' z]).run P w = .ok (.int k (max (max x y) z)) w := by
  have e : ∀ x y : Int, (if y > x then y else x) = max x y := fun x y => by
    rw [Int.max_def]
    split <;> split <;> omega
  simp [Builtin.max_, Builtin.max2, e]

theorem floatOfInt_nat (h : Nat) : floatOfInt .f64 (h : Int) = dbl.nearest false h 0 := by
  unfold floatOfInt FloatKind.nearest
  rw [show decide ((h : Int) < 0) = false by simp, Int.natAbs_natCast]
  rfl

theorem ldexp_any (H : Nat) (E : Int) (hH : H ≤ 9007199254740992) (hE : -1074 ≤ E) (hE2 : E ≤ 100000) (w : World) :
    Calls Try.prog 116 #[.float .f64 (floatOfInt .f64 (H : Int)), .int .i64 E] w fun e w' => e = .returned (.float .f64 (dbl.nearest false H E)) ∧ w = w' := by
  rw [floatOfInt_nat]
  by_cases h0 : H = 0
  · subst h0
    have e : ∀ E, dbl.nearest false 0 E = 0 := fun E => by unfold Ieee.Format.nearest; rw [if_pos rfl]; rfl
    rw [e, e]
    exact ldexp_0 E w
  · rw [nearest_ld false H 0 h0 hH, nearest_ld false H E h0 hH]
    obtain ⟨b1, b2⟩ := ldM_bd H h0 hH
    have b3 := ldL_le H hH
    obtain ⟨R, hR⟩ : ∃ R, ldM H = 4503599627370496 + R := ⟨ldM H - 4503599627370496, by omega⟩
    rw [hR] at b1 b2 ⊢
    have e := nearest_row (4503599627370496 + R) (0 + (ldL H : Int) - 52) b1 b2 (by omega) (by omega)
    rw [show (0 + (ldL H : Int) - 52 + 1074).toNat = ldL H + 1022 by omega] at e
    exact ldexp_row _ (ldL H) R E (by rw [e]; omega) (by omega) b3 hE hE2 w

/-- The float of a whole number times a power of 2. -/
def jW (m e : Int) : Nat := if m = 0 then 0 else dbl.nearest (decide (m < 0)) m.natAbs (min (max e (-5000)) 5000)

theorem word_or (r : Nat) (h : r ≤ 9218868437227405312) : bits .or .u64 (r : Int) 9223372036854775808 = ((9223372036854775808 + r : Nat) : Int) := by
  rw [show (9223372036854775808 : Int) = ((9223372036854775808 : Nat) : Int) from rfl, u64_or_nat r 9223372036854775808 (by omega) (by decide), Nat.or_comm, nat_join 63 9223372036854775808 r (by decide) (by rw [show (2 : Nat) ^ 63 = 9223372036854775808 by decide]; omega)]
theorem word_or0 (r : Nat) (h : r ≤ 9218868437227405312) : bits .or .u64 (r : Int) 0 = (r : Int) := by
  have := u64_or_nat r 0 (by omega) (by decide)
  rw [show ((0 : Nat) : Int) = 0 from rfl] at this
  rw [this, Nat.or_zero]

/-- Of which the float is made: digits dropped, the exponent. -/
theorem join_word (s : Bool) (u : Nat) (e : Int) (h0 : u ≠ 0) :
    dbl.nearest false (jH u e) (e + jQ u e) ≤ 9218868437227405312 ∧ dbl.nearest s u e = (if s then 9223372036854775808 else 0) + dbl.nearest false (jH u e) (e + jQ u e) := by
  rw [nearest_rnd _ _ _ h0, join_near u e h0]
  by_cases hz : jH u e = 0
  · rw [if_pos hz, hz]
    have e0 : ∀ E, dbl.nearest false 0 E = 0 := fun E => by unfold Ieee.Format.nearest; rw [if_pos rfl]; rfl
    rw [e0]
    refine ⟨by decide, ?_⟩
    cases s <;> rfl
  · rw [if_neg hz, nearest_rnd _ _ _ hz, word_f]
    refine ⟨Nat.min_le_right _ _, ?_⟩
    unfold Ieee.Format.word
    rw [dbl_sw]
    cases s <;> simp

set_option maxHeartbeats 3200000 in
theorem join_pos (u : Nat) (e : Int) (h0 : u ≠ 0) (hu : u < 9223372036854775808) (w : World) :
    Calls Try.prog 140 #[.int .i64 u, .int .i64 e] w fun en w' => en = .returned (.float .f64 (jW u e)) ∧ ∃ n, w' = w.drewN n := by
  obtain ⟨e2, he2⟩ : ∃ e2, min (max e (-5000)) 5000 = e2 := ⟨_, rfl⟩
  obtain ⟨hb, hw⟩ := join_word false u e2 h0
  have hj : jW u e = dbl.nearest false (jH u e2) (e2 + jQ u e2) := by
    unfold jW
    rw [if_neg (by omega), he2, show decide ((u : Int) < 0) = false by simp, Int.natAbs_natCast, hw]
    simp
  have hq : max (max ((bl u : Int) - 53) (-1074 - e2)) 0 = jQ u e2 := rfl
  have hl : bl u ≤ 63 := bl_le (by rw [show (2 : Nat) ^ 63 = 9223372036854775808 by decide]; exact hu)
  have hq0 : 0 ≤ jQ u e2 := by omega
  have hq1 : jQ u e2 ≤ 10000 := by omega
  have hE : -1074 ≤ e2 + jQ u e2 := by omega
  have hE2 : e2 + jQ u e2 ≤ 100000 := by omega
  have hR := Hd.mk (jround_any u (jQ u e2) (by omega) hq0 (by omega))
  have hh : (if jQ u e2 = 0 then u else rh u (jQ u e2).toNat false) = jH u e2 := rfl
  rw [hh] at hR
  have hLd := Hd.mk (ldexp_any (jH u e2) (e2 + jQ u e2) (jH_le u e2) hE hE2)
  rw [← hj] at hLd hb
  generalize jH u e2 = H at *
  generalize jQ u e2 = q at *
  generalize hW : jW u e = W at *
  have hor := word_or0 W hb
  have hc0 : ((u : Int) == 0) = false := by rw [beq_eq_false_iff_ne]; omega
  have hu1 : (0 : Int) ≤ u := by omega
  have hu2 : (u : Int) ≤ 9223372036854775807 := by omega
  have hl0 : (0 : Int) ≤ bl u := by omega
  have hl1 : (bl u : Int) ≤ 63 := by omega
  have e20 : -5000 ≤ e2 := by omega
  have e21 : e2 ≤ 5000 := by omega
  have hLn := Hd.mk (len64_any u (by omega))
  clear hw hj hh hW hl h0
  go_enter Try.func140, Try.ntmps140
  go_wp2_with fail
  refine (hLn.out _).mono ?_; rintro en w' ⟨rfl, rfl⟩
  go_wp2_with fail
  refine (hR.out _).mono ?_; rintro en w1 ⟨rfl, n, rfl⟩
  go_wp2_with fail
  refine (hLd.out _).mono ?_; rintro en w' ⟨rfl, rfl⟩
  go_wp2_with fail
  refine (apiBits_any _ _).mono ?_; rintro en w' ⟨rfl, rfl⟩
  go_wp2_with fail
  refine (apiFloat_any _ _).mono ?_; rintro en w' ⟨rfl, rfl⟩
  go_wp2_with fail
  go_ret
  exact ⟨ret_float (Int.toNat_natCast _), n, rfl⟩

set_option maxHeartbeats 3200000 in
theorem join_neg (m : Int) (u : Nat) (e : Int) (hm : m = -(u : Int)) (h0 : u ≠ 0) (hu : u ≤ 9223372036854775808) (w : World) :
    Calls Try.prog 140 #[.int .i64 m, .int .i64 e] w fun en w' => en = .returned (.float .f64 (jW m e)) ∧ ∃ n, w' = w.drewN n := by
  obtain ⟨e2, he2⟩ : ∃ e2, min (max e (-5000)) 5000 = e2 := ⟨_, rfl⟩
  obtain ⟨hb, hw⟩ := join_word true u e2 h0
  have hj : jW m e = 9223372036854775808 + dbl.nearest false (jH u e2) (e2 + jQ u e2) := by
    unfold jW
    rw [if_neg (by omega), he2, show decide (m < 0) = true by simp; omega, show m.natAbs = u by omega, hw]
    simp
  have hq : max (max ((bl u : Int) - 53) (-1074 - e2)) 0 = jQ u e2 := rfl
  have hl : bl u ≤ 64 := bl_le (by rw [show (2 : Nat) ^ 64 = 18446744073709551616 by decide]; omega)
  have hq0 : 0 ≤ jQ u e2 := by omega
  have hq1 : jQ u e2 ≤ 10000 := by omega
  have hE : -1074 ≤ e2 + jQ u e2 := by omega
  have hE2 : e2 + jQ u e2 ≤ 100000 := by omega
  have hR := Hd.mk (jround_any u (jQ u e2) (by omega) hq0 (by omega))
  have hh : (if jQ u e2 = 0 then u else rh u (jQ u e2).toNat false) = jH u e2 := rfl
  rw [hh] at hR
  have hLd := Hd.mk (ldexp_any (jH u e2) (e2 + jQ u e2) (jH_le u e2) hE hE2)
  have hor := word_or _ hb
  rw [← hj] at hor
  generalize jH u e2 = H at *
  generalize jQ u e2 = q at *
  generalize jW m e = W at *
  generalize dbl.nearest false H (e2 + q) = W0 at *
  have hc0 : (m == 0) = false := by rw [beq_eq_false_iff_ne]; omega
  have hc1 : decide (m < 0) = true := by simp; omega
  obtain ⟨A, hA⟩ : ∃ A : Nat, (A : Int) = 18446744073709551616 - u := ⟨(18446744073709551616 - (u : Int)).toNat, by omega⟩
  have hw1 : IntKind.u64.wrap m = (A : Int) := by rw [IntKind.wrap_u64]; omega
  have hw2 : IntKind.u64.wrap (-(A : Int)) = (u : Int) := by rw [IntKind.wrap_u64]; omega
  have hu1 : (0 : Int) ≤ u := by omega
  have hu2 : (u : Int) ≤ 9223372036854775808 := by omega
  have hl0 : (0 : Int) ≤ bl u := by omega
  have hl1 : (bl u : Int) ≤ 64 := by omega
  have e20 : -5000 ≤ e2 := by omega
  have e21 : e2 ≤ 5000 := by omega
  have hLn := Hd.mk (len64_any u (by omega))
  clear hw hj hh hl h0 hA hm
  go_enter Try.func140, Try.ntmps140
  go_wp2_with fail
  refine (hLn.out _).mono ?_; rintro en w' ⟨rfl, rfl⟩
  go_wp2_with fail
  refine (hR.out _).mono ?_; rintro en w1 ⟨rfl, n, rfl⟩
  go_wp2_with fail
  refine (hLd.out _).mono ?_; rintro en w' ⟨rfl, rfl⟩
  go_wp2_with fail
  refine (apiBits_any _ _).mono ?_; rintro en w' ⟨rfl, rfl⟩
  go_wp2_with fail
  refine (apiFloat_any _ _).mono ?_; rintro en w' ⟨rfl, rfl⟩
  go_wp2_with fail
  go_ret
  exact ⟨ret_float (Int.toNat_natCast _), n, rfl⟩

theorem join_any (m e : Int) (h1 : -9223372036854775808 ≤ m) (h2 : m ≤ 9223372036854775807) (w : World) :
    Calls Try.prog 140 #[.int .i64 m, .int .i64 e] w fun en w' => en = .returned (.float .f64 (jW m e)) ∧ ∃ n, w' = w.drewN n := by
  by_cases h0 : m = 0
  · subst h0
    rw [show jW 0 e = 0 from rfl]
    go_enter Try.func140, Try.ntmps140
    go_wp2_with fail
    go_ret
    exact ⟨rfl, 0, rfl⟩
  · by_cases hn : m < 0
    · exact join_neg m m.natAbs e (by omega) (by omega) (by omega) w
    · have := join_pos m.toNat e (by omega) (by omega) w
      rwa [show ((m.toNat : Nat) : Int) = m by omega] at this

end Go.Proofs.Yteikihidblcljaa

/- The walks of fn.Exp and of what it calls. -/
namespace Go.Proofs.Yteikihidblcljaa
open Go.RowKit
set_option linter.unusedSimpArgs false
set_option linter.unusedVariables false

/-- It returns a float that is v, all NaNs taken for one; what memory held is as it was. -/
def FRetB (v : Nat) (w : World) (e : Ending) (w' : World) : Prop := ∃ r, e = .returned (.float .f64 r) ∧ F64 r ∧ cn r = v ∧ Below w.heap.size w w'

theorem toIntegral_num (n : String) (u : Nat) (s : Bool) (m : Nat) (i : Int) (hr : FloatKind.f64.decode u = .number s m i) :
    Extern.MathFloor.toIntegral n .down #[.float .f64 u] = pure (.float .f64 (FloatKind.f64.encode ((FloatKind.f64.decode u).integral .down))) := by
  show Extern.MathFloor.toIntegral.match_1 (motive := fun _ => Sem Value) (FloatKind.f64.decode u) _ _ = _
  rw [hr]

theorem run_archFloor (u : Nat) (hu : F64 u) (h : fin u = true) (hz : mg u = 0 → ng u = false) (w : World) :
    (callFunc 152 #[.float .f64 u]).run Try.prog w = .ok (.value (.float .f64 (floatOfInt .f64 (fl0 u)))) w := by
  rw [run_callFunc_extern Try.func152 (by kernel_rfl) (by kernel_rfl) (by kernel_rfl) (e := Extern.MathFloor.toIntegral "math.archFloor" .down) (by kernel_rfl)]
  rw [toIntegral_num _ u _ _ _ (read_fin u hu h), floor_word u hu h hz]; rfl

set_option maxHeartbeats 800000 in
theorem floor_any (u : Nat) (hu : F64 u) (h : fin u = true) (hz : mg u = 0 → ng u = false) (w : World) :
    Calls Try.prog 142 #[.float .f64 u] w fun e w' => e = .returned (.float .f64 (floatOfInt .f64 (fl0 u))) ∧ w = w' := by
  have hF := fun w => run_archFloor u hu h hz w
  generalize floatOfInt .f64 (fl0 u) = z at *
  clear h hz
  go_enter Try.func142, Try.ntmps142
  go_wp2
  go_ret
  exact ⟨rfl, rfl⟩

set_option maxHeartbeats 800000 in
theorem minf_any (w : World) : Calls Try.prog 71 #[.int .i64 1] w fun e w' => e = .returned (.float .f64 9218868437227405312) ∧ w = w' := by
  go_enter Try.func71, Try.ntmps71
  go_wp2
  go_ret
  exact ⟨rfl, rfl⟩
set_option maxHeartbeats 800000 in
theorem minf_neg (w : World) : Calls Try.prog 71 #[.int .i64 (-1)] w fun e w' => e = .returned (.float .f64 18442240474082181120) ∧ w = w' := by
  go_enter Try.func71, Try.ntmps71
  go_wp2
  go_ret
  exact ⟨rfl, rfl⟩
set_option maxHeartbeats 800000 in
theorem mnan_any (w : World) : Calls Try.prog 70 #[] w fun e w' => e = .returned (.float .f64 9221120237041090561) ∧ w = w' := by
  go_enter Try.func70, Try.ntmps70
  go_wp2
  go_ret
  exact ⟨rfl, rfl⟩

/-- p times 2^k. -/
def scal (p : Nat) (k : Int) : Nat := if mg p = 0 then 0 else dbl.nearest (ng p) (mnt p) (exq p + k)

set_option maxHeartbeats 800000 in
theorem scaled_any (p : Nat) (k : Int) (hp : F64 p) (h : fin p = true) (hk1 : -3000 ≤ k) (hk2 : k ≤ 3000) (w : World) :
    Calls Try.prog 143 #[.float .f64 p, .int .i64 k] w fun e w' => e = .returned (.float .f64 (scal p k)) ∧ ∃ n, w' = w.drewN n := by
  by_cases h0 : mg p = 0
  · have HS := Hd.mk (split_zero p hp h0)
    have e1 : scal p k = 0 := by unfold scal; rw [if_pos h0]
    have HJ := Hd.mk (join_any 0 k (by decide) (by decide))
    rw [show jW 0 k = 0 from rfl] at HJ
    rw [e1]
    clear h h0 e1
    go_enter Try.func143, Try.ntmps143
    go_wp2_with fail
    refine (HS.out _).mono ?_; rintro en w' ⟨rfl, rfl⟩
    go_wp2_with fail
    refine (HJ.out _).mono ?_; rintro en w1 ⟨rfl, n, rfl⟩
    go_wp2_with fail
    go_ret
    exact ⟨rfl, n, rfl⟩
  · have HS := Hd.mk (split_num p hp h h0)
    have eb := exq_bd p h
    have ml := mnt_lt p
    have m0 : mnt p ≠ 0 := fun h => h0 ((mnt_zero p).1 h)
    have e1 : scal p k = jW (spM p) (exq p + k) := by
      unfold scal jW spM
      rw [if_neg h0, show min (max (exq p + k) (-5000)) 5000 = exq p + k by omega]
      cases ng p
      · simp only [Bool.false_eq_true, if_false]
        rw [if_neg (by omega), show decide ((mnt p : Int) < 0) = false by simp, Int.natAbs_natCast]
      · simp only [if_true]
        rw [if_neg (by omega), show decide (-(mnt p : Int) < 0) = true by simp; omega, show (-(mnt p : Int)).natAbs = mnt p by omega]
    have HJ := Hd.mk (join_any (spM p) (exq p + k) (by unfold spM; split <;> omega) (by unfold spM; split <;> omega))
    rw [e1]
    clear e1 m0 ml h0 h
    generalize exq p = E at *
    generalize jW (spM p) (E + k) = Z at *
    generalize spM p = M at *
    obtain ⟨g1, g2⟩ := eb
    go_enter Try.func143, Try.ntmps143
    go_wp2_with fail
    refine (HS.out _).mono ?_; rintro en w' ⟨rfl, rfl⟩
    go_wp2_with fail
    refine (HJ.out _).mono ?_; rintro en w1 ⟨rfl, n, rfl⟩
    go_wp2_with fail
    go_ret
    exact ⟨rfl, n, rfl⟩

end Go.Proofs.Yteikihidblcljaa

/- The walk of fn.Exp. -/
namespace Go.Proofs.Yteikihidblcljaa
open Go.RowKit
set_option linter.unusedSimpArgs false
set_option linter.unusedVariables false

theorem mul_val {x y : Nat} (h : nn (fmul x y) = false) : (∀ w, fres .mul x y w = fmul x y) ∧ fcnt .mul x y = 0 := by
  unfold fmul at *
  cases hm : dbl.mul x y with
  | none => rw [hm] at h; exact absurd h (by simp [nn_NaNc])
  | some r => exact ⟨fun w => fres_some (op := .mul) w hm, fcnt_some (op := .mul) hm⟩
theorem add_val {x y : Nat} (h : nn (fadd x y) = false) : (∀ w, fres .add x y w = fadd x y) ∧ fcnt .add x y = 0 := by
  unfold fadd at *
  cases hm : dbl.add x y with
  | none => rw [hm] at h; exact absurd h (by simp [nn_NaNc])
  | some r => exact ⟨fun w => fres_some (op := .add) w hm, fcnt_some (op := .add) hm⟩
theorem sub_val {x y : Nat} (h : nn (fsub x y) = false) : (∀ w, fres .sub x y w = fsub x y) ∧ fcnt .sub x y = 0 := by
  unfold fsub at *
  cases hm : dbl.sub x y with
  | none => rw [hm] at h; exact absurd h (by simp [nn_NaNc])
  | some r => exact ⟨fun w => fres_some (op := .sub) w hm, fcnt_some (op := .sub) hm⟩
theorem div_val {x y : Nat} (h : nn (fdiv x y) = false) : (∀ w, fres .quo x y w = fdiv x y) ∧ fcnt .quo x y = 0 := by
  unfold fdiv at *
  cases hm : dbl.div x y with
  | none => rw [hm] at h; exact absurd h (by simp [nn_NaNc])
  | some r => exact ⟨fun w => fres_some (op := .quo) w hm, fcnt_some (op := .quo) hm⟩

/-- fn.Exp. -/
def fexp (x : Nat) : Nat := if nn x then NaNc else if rk w710 ≤ rk x then 9218868437227405312 else if rk x ≤ rk w746 then 0 else scal (horn exC (exR x (exN x))) (exN x)

/-- (i + 1)!, i from 0 to 12, as floats. -/
def facW : List Nat := [4607182418800017408, 4611686018427387904, 4618441417868443648, 4627448617123184640, 4638144666238189568, 4649544402794971136, 4662263553305083904, 4675774352187195392, 4689977843394805760, 4705047200009289728, 4720626352061939712, 4736815922046566400, 4753323511810883584]
theorem fac_mul : (List.range 12).all (fun k => floatBits .mul .f64 (facW.getD k 0) (floatOfInt .f64 ((k : Int) + 2)) == some (facW.getD (k + 1) 0)) = true := by decide +kernel
theorem fac_quo : (List.range 12).all (fun k => floatBits .quo .f64 oneW (facW.getD (k + 1) 0) == some (exC.getD (k + 2) 0)) = true := by decide +kernel
theorem fac_step (k : Nat) (h : k < 12) : (∀ w, fres .mul (facW.getD k 0) (floatOfInt .f64 ((k : Int) + 2)) w = facW.getD (k + 1) 0) ∧ fcnt .mul (facW.getD k 0) (floatOfInt .f64 ((k : Int) + 2)) = 0 ∧
    (∀ w, fres .quo oneW (facW.getD (k + 1) 0) w = exC.getD (k + 2) 0) ∧ fcnt .quo oneW (facW.getD (k + 1) 0) = 0 := by
  have a := (List.all_eq_true.1 fac_mul) k (List.mem_range.2 h)
  have b := (List.all_eq_true.1 fac_quo) k (List.mem_range.2 h)
  rw [beq_iff_eq] at a b
  exact ⟨fun w => fres_some w a, fcnt_some a, fun w => fres_some w b, fcnt_some b⟩

/-- Floats as cells. -/
def fls (l : List Nat) : List Value := l.map fun (u : Nat) => Value.float .f64 u
theorem fls_take (l : List Nat) (k : Nat) (h : k < l.length) : fls (l.take (k + 1)) = fls (l.take k) ++ [.float .f64 (l.getD k 0)] := by
  unfold fls
  rw [List.take_add_one, List.map_append, List.getElem?_eq_getElem h]
  simp [List.getElem?_eq_getElem h]
theorem fls_of_owns {w : World} {base : Nat} {v : Value} {l : List Nat} (h : w.ownsRow base 28 1 v l.length (fls l)) (hf : ∀ i, F64 (l.getD i 0)) (hl : l.length ≤ 1000000000) :
    ∃ a c, v = .slice a l.length c ∧ Fls w a l := by
  obtain ⟨_, ⟨rfl, h0⟩ | ⟨g, cap, cur, rfl, _, hb, _, _, _, ht⟩⟩ := h
  · have : l = [] := List.eq_nil_of_length_eq_zero h0
    subst this
    exact ⟨none, 0, rfl, ⟨fun _ => rfl, (fun _ _ _ e => by cases e), hf, by simp⟩⟩
  · refine ⟨_, _, rfl, ⟨(fun e => by cases e), fun b o u e i hi => ?_, hf, by omega⟩⟩
    cases e
    refine ⟨rfl, ?_⟩
    have h1 : cur[i]? = some (.float .f64 (l.getD i 0)) := by
      have h2 : (cur.toList.take (l.length * 1))[i]? = (fls l)[i]? := by rw [ht]
      rw [List.getElem?_take_of_lt (by omega)] at h2
      rw [← Array.getElem?_toList, h2]
      unfold fls
      simp [List.getElem?_eq_getElem hi]
    simp [World.cell?, hb, h1]

theorem info_f64 : (Try.prog.info? 28).map (fun i => (i.zero, i.size, i.bytes)) = some (some (.float .f64 0), 1, 8) := by kernel_rfl

theorem F64_getD (l : List Nat) (h : l.all (fun x => decide (x < 18446744073709551616)) = true) (i : Nat) : F64 (l.getD i 0) := by
  constructor
  rw [List.getD_eq_getElem?_getD]
  cases hx : l[i]? with
  | none => decide
  | some x =>
    have := (List.all_eq_true.1 h) x (List.mem_of_getElem? hx)
    simpa using this

theorem exC_cn : exC.map cn = exC := by decide +kernel
theorem exC_64 : exC.all (fun x => decide (x < 18446744073709551616)) = true := by decide

set_option maxRecDepth 100000 in
set_option maxHeartbeats 8000000 in
theorem exp_mid (x : Nat) (hx : F64 x) (fx : fin x = true) (h1 : rk w746 < rk x) (h2 : rk x < rk w710) (w : World) :
    Calls Try.prog 127 #[.float .f64 x] w (FRetB (fexp x) w) := by
  have hn := nn_fin x fx
  have E := ex_facts x hx fx h1 h2
  obtain ⟨p1, p2, p3⟩ := ex_poly x E
  have HV : Hd (scal (horn exC (exR x (exN x))) (exN x) = fexp x) := ⟨by unfold fexp; rw [hn, if_neg (by simp), if_neg (by omega), if_neg (by omega)]⟩
  have HS := Hd.mk (scaled_any (horn exC (exR x (exN x))) (exN x) p1 p2 (by have := E.n1; omega) (by have := E.n2; omega))
  have FS : Hd (F64 (scal (horn exC (exR x (exN x))) (exN x)) ∧ nn (scal (horn exC (exR x (exN x))) (exN x)) = false) := ⟨by
    unfold scal; split
    · exact ⟨⟨by decide⟩, by decide +kernel⟩
    · exact ⟨F64_of_lt (Ieee.Format.nearest_lt _ _ _ _), nearest_nn _ _ _⟩⟩
  rw [HV.out] at HS FS
  have HH := Hd.mk fun (a : Option Addr) (c : Nat) (w : World) (hl : Fls w a exC) => horner_any a exC c (exR x (exN x)) (F64_exR _ _) w hl
  rw [exC_cn, cn_of _ (nn_fin _ E.f6)] at HH
  have HPn := Hd.mk (nn_fin _ p2)
  generalize horn exC (exR x (exN x)) = P at *
  have HF := Hd.mk (floor_any (exU x) (F64_exU x) E.f2 E.z)
  have hK : floatOfInt .f64 (fl0 (exU x)) = floatOfInt .f64 (exN x) := rfl
  rw [hK] at HF
  have hcv : ∀ w, (convert 28 3 (.float .f64 (floatOfInt .f64 (exN x)))).run Try.prog w = .ok (.int .i64 (exN x)) w := fun w => run_convert_float_int w _ _ _ _ _ _ (by rw [Try.underlying28]; rfl) Try.underlying3 (int_trunc _ (by have := E.n1; omega) (by have := E.n2; omega))
  have v1 := mul_val (nn_fin _ E.f1)
  have v2 := add_val (x := fmul x rateW) (y := halfW) (nn_fin _ E.f2)
  have v3 := mul_val (nn_fin _ E.f3)
  have v4 := mul_val (nn_fin _ E.f4)
  have v5 := sub_val (nn_fin _ E.f5)
  have v6 := sub_val (x := fsub x (fmul (floatOfInt .f64 (exN x)) highW)) (y := fmul (floatOfInt .f64 (exN x)) lowW) (nn_fin _ E.f6)
  rw [show fadd (fmul x rateW) halfW = exU x from rfl] at v2
  rw [show fsub (fsub x (fmul (floatOfInt .f64 (exN x)) highW)) (fmul (floatOfInt .f64 (exN x)) lowW) = exR x (exN x) from rfl] at v6
  generalize exU x = U at *
  generalize exR x (exN x) = R at *
  generalize fmul x rateW = M1 at *
  generalize hkf : floatOfInt .f64 (exN x) = K at *
  generalize fmul K highW = M2 at *
  generalize fmul K lowW = M3 at *
  generalize fsub x M2 = S1 at *
  generalize exN x = N at *
  obtain ⟨v1a, v1b⟩ := v1
  obtain ⟨v2a, v2b⟩ := v2
  obtain ⟨v3a, v3b⟩ := v3
  obtain ⟨v4a, v4b⟩ := v4
  obtain ⟨v5a, v5b⟩ := v5
  obtain ⟨v6a, v6b⟩ := v6
  have hd0 : ∀ w : World, w.drewN 0 = w := fun _ => rfl
  have F10 : F64 w710 := F64_w710
  have F46 : F64 w746 := F64_w746
  have n10 : nn w710 = false := by decide +kernel
  have n46 : nn w746 = false := by decide +kernel
  have o0 : (FloatKind.f64.format.order x x != some .eq) = false := by rw [bne, feq x x hx hx, hn]; simp
  have o1 : (FloatKind.f64.format.order x 4649456441864749056 == some .gt) = false := by rw [fgt x w710 hx F10]; simp; omega
  have o2 : (FloatKind.f64.format.order x 4649456441864749056 == some .eq) = false := by rw [feq x w710 hx F10]; simp; omega
  have o3 : (FloatKind.f64.format.order x 13873145138068324352 == some .lt) = false := by rw [flt x w746 hx F46]; simp; omega
  have o4 : (FloatKind.f64.format.order x 13873145138068324352 == some .eq) = false := by rw [feq x w746 hx F46]; simp; omega
  obtain ⟨i0, hi, hz0, hz1, hz2⟩ := info_parts info_f64
  clear E h1 h2 fx hn hK hkf p1 p2 p3 F10 F46 n10 n46 HV
  go_enter Try.func127, Try.ntmps127
  go_wp2_with fail
  refine (HF.out _).mono ?_; rintro en w' ⟨rfl, rfl⟩
  go_wp2_with fail
  have hO : (w.alloc (.cells #[.float .f64 4607182418800017408, .float .f64 4607182418800017408] 28)).ownsRow w.heap.size 28 1 (.slice (some ⟨w.heap.size, 0, none⟩) 2 2) 2 (fls (exC.take 2)) :=
    World.ownsRow_lit w #[.float .f64 4607182418800017408, .float .f64 4607182418800017408] 2 (Nat.le_refl _) (by unfold maxLen; omega) rfl
  have HO := Hd.mk hO
  have HB : Hd (Below w.heap.size w (w.alloc (.cells #[.float .f64 4607182418800017408, .float .f64 4607182418800017408] 28))) := ⟨(Below.refl _ _).alloc (Nat.le_refl _) _⟩
  clear hO
  generalize (w.alloc (.cells #[.float .f64 4607182418800017408, .float .f64 4607182418800017408] 28)) = w1 at *
  go_loopw [5, 6, 7, 32] (fun c f _ i wr => ∃ k : Nat, k ≤ 12 ∧ i = .int .i64 k ∧ f = .float .f64 (facW.getD k 0) ∧ Hd (wr.ownsRow w.heap.size 28 1 c (k + 2) (fls (exC.take (k + 2)))) ∧ Hd (Below w.heap.size w wr)) (fun _ _ _ i _ => 12 - (intOf i).toNat)
  case atStart => exact ⟨0, Nat.zero_le _, rfl, rfl, HO, HB⟩
  case round =>
    clear HO HB
    obtain ⟨k, hk, rfl, rfl, HO, HB⟩ := hrel
    by_cases hlt : k < 12
    · obtain ⟨s1, s2, s3, s4⟩ := fac_step k hlt
      have HT := Hd.mk (fls_take exC (k + 2) (by unfold exC; simp; omega))
      generalize facW.getD k 0 = f0 at *
      generalize hf1 : facW.getD (k + 1) 0 = f1 at *
      have HF1 := Hd.mk hf1
      clear hf1
      generalize exC.getD (k + 2) 0 = q1 at *
      have hlt' : (k : Int) < 12 := by omega
      have k0 : (0 : Int) ≤ k := by omega
      go_wp2_with (first
        | (at_builtin; refine wpList_append_own _ rfl _ _ 58 rfl w.heap.size 28 i0 (.float .f64 0) 1 8 Try.underlying58 hi hz0 hz1 hz2 rfl (by decide) _ _ _ rfl (HO.out.alloc _) ⟨wr.heap.size, 0, none⟩ 1 1 [.float .f64 q1] rfl rfl ?c1 ?c2 ?c3 ?c4 ?c5 ?_)
        | fail)
      case c1 =>
        intro j u hj
        match j, hj with
        | 0, hj => simp at hj; subst hj; simp [Addr.add]
      case c2 => intro u hu; simp at hu; subst hu; rfl
      case c3 => unfold maxLen; omega
      case c4 => omega
      case c5 => have := HB.out.size; simp; omega
      · intro v' w1 hown' hgrow _
        rw [← HT.out] at hown'
        have HO' := Hd.mk hown'
        have HB' : Hd (Below w.heap.size w w1) := ⟨by
          refine (HB.out.alloc HB.out.size _).grown hgrow (by have := HB.out.size; simp; omega) ?_
          exact owns_block HO.out⟩
        clear hown' hgrow
        go_wp2_with fail
        refine ⟨⟨k + 1, by omega, by go_num, by rw [HF1.out], HO', HB'⟩, by simp [intOf]; omega⟩
    · obtain rfl : k = 12 := by omega
      have h := HO.out
      rw [show exC.take (12 + 2) = exC from rfl] at h
      obtain ⟨a', c', rfl, hu⟩ := fls_of_owns (l := exC) h (F64_getD exC exC_64) (by decide)
      have HU := Hd.mk hu
      clear h hu
      rw [show exC.length = 14 from rfl] at *
      go_wp2_with fail
      refine (HH.out _ _ _ HU.out).mono ?_; rintro en w' ⟨r, n, rfl, hr, hc, rfl⟩
      obtain rfl : r = P := by
        have h1 : nn r = false := by rw [← nn_cn, hc]; exact HPn.out
        rw [cn_of r h1] at hc; exact hc
      clear hc hr
      go_wp2_with fail
      refine (HS.out _).mono ?_; rintro en w2 ⟨rfl, n2, rfl⟩
      go_wp2_with fail
      go_ret
      exact ⟨_, rfl, FS.out.1, cn_of _ FS.out.2, below_drewN HB.out (n + n2)⟩

set_option maxHeartbeats 1600000 in
/-- fn.Exp, of any float. -/
theorem exp_any (x : Nat) (hx : F64 x) (w : World) :
    Calls Try.prog 127 #[.float .f64 x] w (FRetB (fexp (cn x)) w) := by
  cases hn : nn x
  · rw [cn_of x hn]
    have n10 : nn w710 = false := by decide +kernel
    have n46 : nn w746 = false := by decide +kernel
    have r10 : rk w710 < 9218868437227405312 := by decide +kernel
    have r46 : -9218868437227405312 < rk w746 := by decide +kernel
    have r47 : rk w746 < rk w710 := by decide +kernel
    have o0 : (FloatKind.f64.format.order x x != some .eq) = false := by rw [bne, feq x x hx hx, hn]; simp
    by_cases h1 : rk w710 ≤ rk x
    · have HV : Hd (cn 9218868437227405312 = fexp x) := ⟨by unfold fexp; rw [hn, if_neg (by simp), if_pos h1]; decide +kernel⟩
      have o1 : (FloatKind.f64.format.order x 4649456441864749056 == some .gt || FloatKind.f64.format.order x 4649456441864749056 == some .eq) = true := by
        rw [fgt x w710 hx F64_w710, feq x w710 hx F64_w710, hn, n10]
        simp; omega
      clear h1 n10 n46 r10 r46 r47
      go_enter Try.func127, Try.ntmps127
      go_wp2_with (go_at_call 71; refine (minf_any _).mono ?_; rintro e w' ⟨rfl, rfl⟩)
      all_goals
        go_ret
        exact ⟨_, rfl, ⟨by decide⟩, HV.out, Below.refl _ _⟩
    · by_cases h2 : rk x ≤ rk w746
      · have HV : Hd (cn 0 = fexp x) := ⟨by unfold fexp; rw [hn, if_neg (by simp), if_neg h1, if_pos h2]; exact cn_zero⟩
        have o1 : (FloatKind.f64.format.order x 4649456441864749056 == some .gt) = false := by rw [fgt x w710 hx F64_w710]; simp; omega
        have o2 : (FloatKind.f64.format.order x 4649456441864749056 == some .eq) = false := by rw [feq x w710 hx F64_w710]; simp; omega
        have o3 : (FloatKind.f64.format.order x 13873145138068324352 == some .lt || FloatKind.f64.format.order x 13873145138068324352 == some .eq) = true := by
          rw [flt x w746 hx F64_w746, feq x w746 hx F64_w746, hn, n46]
          simp; omega
        clear h1 h2 n10 n46 r10 r46 r47
        go_enter Try.func127, Try.ntmps127
        go_wp2_with fail
        all_goals
          go_ret
          exact ⟨_, rfl, ⟨by decide⟩, HV.out, Below.refl _ _⟩
      · exact exp_mid x hx ((rk_fin x).2 ⟨by omega, by omega⟩) (by omega) (by omega) w
  · have HV : Hd (cn x = fexp (cn x)) := ⟨by unfold fexp; rw [nn_cn, hn, if_pos rfl, cn_nan x hn]⟩
    have o0 : (FloatKind.f64.format.order x x != some .eq) = true := by rw [bne, feq x x hx hx, hn]; simp
    clear hn
    go_enter Try.func127, Try.ntmps127
    go_wp2_with fail
    go_ret
    exact ⟨_, rfl, hx, HV.out, Below.refl _ _⟩

end Go.Proofs.Yteikihidblcljaa

/- The walk of fn.Ln. -/
namespace Go.Proofs.Yteikihidblcljaa
open Go.RowKit
set_option linter.unusedSimpArgs false
set_option linter.unusedVariables false

theorem odd_quo : (List.range 11).all (fun k => floatBits .quo .f64 oneW (floatOfInt .f64 (2 * (k : Int) + 1)) == some (lnC.getD k 0)) = true := by decide +kernel
theorem odd_step (k : Nat) (h : k < 11) : (∀ w, fres .quo oneW (floatOfInt .f64 (2 * (k : Int) + 1)) w = lnC.getD k 0) ∧ fcnt .quo oneW (floatOfInt .f64 (2 * (k : Int) + 1)) = 0 := by
  have b := (List.all_eq_true.1 odd_quo) k (List.mem_range.2 h)
  rw [beq_iff_eq] at b
  exact ⟨fun w => fres_some w b, fcnt_some b⟩

/-- The digits on their way up. -/
theorem lnup_step (m : Nat) (h0 : m ≠ 0) (hl : m < 9007199254740992) (j : Nat) : (j < 53 - bl m → m * 2 ^ j < 4503599627370496) ∧ (53 - bl m ≤ j → 4503599627370496 ≤ m * 2 ^ j) := by
  have hs := bl_shift h0 j
  constructor
  · intro h
    have a := bl_lt (m * 2 ^ j)
    have b : 2 ^ bl (m * 2 ^ j) ≤ 2 ^ 52 := Nat.pow_le_pow_right (by decide) (by omega)
    rw [show (2 : Nat) ^ 52 = 4503599627370496 by decide] at b
    omega
  · intro h
    have := le_of_bl (x := m * 2 ^ j) (n := 52) (by omega)
    rwa [show (2 : Nat) ^ 52 = 4503599627370496 by decide] at this

theorem one_w : RowW oneW 4503599627370496 (-52) := row_w 4503599627370496 1022 (by decide) (by decide) (by decide)
theorem cn_cns : cn oneW = oneW ∧ cn twoW = twoW ∧ cn highW = highW ∧ cn lowW = lowW := by decide +kernel

set_option maxRecDepth 100000 in
set_option maxHeartbeats 16000000 in
theorem ln_mid (x : Nat) (hx : F64 x) (fx : fin x = true) (h0 : mg x ≠ 0) (hs : ng x = false) (w : World) :
    Calls Try.prog 125 #[.float .f64 x] w (FRetB (fln x) w) := by
  have hn := nn_fin x fx
  have m0 : mnt x ≠ 0 := fun h => h0 ((mnt_zero x).1 h)
  have ml := mnt_lt x
  have eb := exq_bd x fx
  obtain ⟨ra, rb, rc, rd⟩ := lnR_bd x m0
  have mf : mg x < 9218868437227405312 := by unfold fin INF at fx; simpa using fx
  have HV : Hd (lnV (lnM x) (lnN x) = fln x) := ⟨by unfold fln; rw [hn, hs, if_neg (by simp), if_neg h0, if_neg (by simp), if_neg (by unfold INF; omega)]⟩
  rw [← HV.out]
  have xl : x < 9218868437227405312 := by
    have : x = mg x := by have := hx.out; unfold ng at hs; rw [mg_val]; simp at hs; omega
    omega
  have HSp := Hd.mk (split_num x hx fx h0)
  rw [show spM x = (mnt x : Int) by unfold spM; rw [hs]; rfl] at HSp
  have hJ := join_any (lnR x : Int) (-52) (by omega) (by omega)
  rw [show jW (lnR x : Int) (-52) = lnM0 x by
    unfold jW
    rw [if_neg (by omega), show decide ((lnR x : Int) < 0) = false by simp, Int.natAbs_natCast, show min (max (-52 : Int) (-5000)) 5000 = -52 by decide, (lnM0_row x m0).2]] at hJ
  have HJ := Hd.mk hJ
  have HM := lnM0_w x m0
  have HR := Hd.mk (show ∀ j, j ≤ 53 - bl (mnt x) → ¬ j < 53 - bl (mnt x) → mnt x * 2 ^ j = lnR x from fun j h1 h2 => by unfold lnR; rw [show j = 53 - bl (mnt x) by omega])
  have HU := Hd.mk (lnup_step (mnt x) m0 ml)
  have hnb := lnN_bd x fx m0
  have F0 : F64 0 := ⟨by decide⟩
  have n0 : nn 0 = false := by decide +kernel
  have r0 : rk 0 = 0 := by decide +kernel
  have o0 : (FloatKind.f64.format.order x x != some .eq) = false := by rw [bne, feq x x hx hx, hn]; simp
  have po := pos_order x 0 xl (by decide)
  have o1 : (FloatKind.f64.format.order x 0 == some .lt) = false := by rw [po.2.1]; simp
  have xne : x ≠ 0 := fun h => h0 (by rw [h]; exact mg_small 0 (by decide))
  have o2 : (FloatKind.f64.format.order x 0 == some .eq) = false := by rw [po.1]; simpa using xne
  have o3 : (FloatKind.f64.format.order x 9218868437227405311 == some .gt) = false := by rw [(pos_order x 9218868437227405311 xl (by decide)).2.2]; simp; omega
  have HD := Hd.mk fun (a : Option Addr) (c : Nat) (w : World) (z : Nat) (hz : F64 z) (hl : Fls w a lnC) => horner_any a lnC c z hz w hl
  rw [lnC_cn] at HD
  have hrootF : F64 rootW := ⟨by decide⟩
  have nroot : nn rootW = false := by decide +kernel
  have HMF : Hd (F64 (lnM x) ∧ nn (lnM x) = false) := ⟨by
    unfold lnM; split
    · have := (div_two (lnM0 x) (lnR x) HM ra rb).2
      unfold fmul; rw [this]; exact ⟨F64_of_lt (Ieee.Format.nearest_lt _ _ _ _), nearest_nn _ _ _⟩
    · exact ⟨HM.w, nn_fin _ HM.f⟩⟩
  have HW : (rk rootW < rk (lnM0 x) ∧ (FloatKind.f64.format.order (lnM0 x) 4609047870845172685 == some .gt) = true ∧ lnK x + 1 = lnN x ∧ (∀ w, fres .quo (lnM0 x) 4611686018427387904 w = lnM x) ∧ fcnt .quo (lnM0 x) 4611686018427387904 = 0) ∨
      ((FloatKind.f64.format.order (lnM0 x) 4609047870845172685 == some .gt) = false ∧ lnK x = lnN x ∧ lnM0 x = lnM x) := by
    have hg : (FloatKind.f64.format.order (lnM0 x) 4609047870845172685 == some .gt) = decide (rk rootW < rk (lnM0 x)) := by
      rw [fgt _ rootW HM.w hrootF, nn_fin _ HM.f, nroot]; simp
    by_cases hc : rk rootW < rk (lnM0 x)
    · left
      obtain ⟨d1, d2⟩ := div_two (lnM0 x) (lnR x) HM ra rb
      have e : lnM x = dbl.nearest false (lnR x) (-53) := by unfold lnM; rw [if_pos hc]; unfold fmul; rw [d2]; rfl
      exact ⟨hc, by rw [hg]; simpa using hc, by unfold lnN; rw [if_pos hc], fun w => by rw [e]; exact fres_some w (op := .quo) d1, fcnt_some (op := .quo) d1⟩
    · right
      exact ⟨by rw [hg]; simpa using hc, by unfold lnN; rw [if_neg hc], by unfold lnM; rw [if_neg hc]⟩
  have hK : exq x - ((53 - bl (mnt x) : Nat) : Int) + 52 = lnK x := by unfold lnK; omega
  have hd0 : ∀ w : World, w.drewN 0 = w := fun _ => rfl
  have HKF : Hd (F64 (floatOfInt .f64 (lnN x)) ∧ cn (floatOfInt .f64 (lnN x)) = floatOfInt .f64 (lnN x)) := ⟨by
    obtain ⟨_, b, c, _⟩ := int_float (lnN x) (by omega) (by omega)
    exact ⟨c, cn_of _ (nn_fin _ b)⟩⟩
  obtain ⟨i0, hi, hz0, hz1, hz2⟩ := info_parts info_f64
  obtain ⟨D, hD⟩ : ∃ D, 53 - bl (mnt x) = D := ⟨_, rfl⟩
  rw [hD] at hK HR HU
  have hD2 : D ≤ 52 := by omega
  have kb : -1100 ≤ lnK x ∧ lnK x ≤ 1100 := by unfold lnK; omega
  clear HV h0 hs fx hn m0 hD rc rd mf xl po xne F0 n0 r0 hrootF nroot HM hJ
  generalize lnM x = M at *
  generalize lnN x = N at *
  generalize lnM0 x = M0 at *
  generalize lnK x = K at *
  generalize hRR : lnR x = R at *
  generalize mnt x = m at *
  generalize exq x = e at *
  clear hRR
  obtain ⟨e1, e2⟩ := eb
  obtain ⟨nb1, nb2⟩ := hnb
  obtain ⟨kb1, kb2⟩ := kb
  go_enter Try.func125, Try.ntmps125
  go_wp2_with (first | (go_at_call 52; refine (HSp.out _).mono ?_; rintro en w' ⟨rfl, rfl⟩) | go_in)
  go_loop [3, 4] (fun u v => ∃ j : Nat, j ≤ D ∧ u = .int .i64 ((m * 2 ^ j : Nat) : Int) ∧ v = .int .i64 (e - j)) (fun _ v => (intOf v - (e - D)).toNat)
  case atStart => exact ⟨0, Nat.zero_le _, by rw [Nat.pow_zero, Nat.mul_one], by simp⟩
  case round =>
    obtain ⟨j, hj, rfl, rfl⟩ := hrel
    obtain ⟨u1, u2⟩ := HU.out j
    by_cases hlt : j < D
    · have hA := u1 hlt
      have hA2 := Hd.mk (show m * 2 ^ (j + 1) = m * 2 ^ j * 2 by rw [Nat.pow_succ, Nat.mul_assoc])
      clear u1 u2
      generalize m * 2 ^ j = A at *
      have a0 : (0 : Int) ≤ A := by omega
      have a1 : (A : Int) < 4503599627370496 := by omega
      have j0 : (0 : Int) ≤ j := by omega
      have j1 : (j : Int) ≤ 52 := by omega
      go_wp2_with fail
      go_round
      case rel => exact ⟨j + 1, by omega, by rw [hA2.out]; congr 1, by congr 1; omega⟩
      case measure => simp [intOf]; omega
    · have hA := u2 (by omega)
      have hAR := HR.out j hj hlt
      obtain rfl : j = D := by omega
      rw [hAR] at *
      clear u1 u2 hAR HU HR
      have a0 : (0 : Int) ≤ R := by omega
      have a1 : decide ((R : Int) < 4503599627370496) = false := by simp; omega
      have j0 : (0 : Int) ≤ j := by omega
      have j1 : (j : Int) ≤ 52 := by omega
      have jb : e - (j : Int) + 52 = K := hK
      clear hK hA ra rb
      rcases HW with ⟨_, g1, g2, g3, g4⟩ | ⟨g1, rfl, rfl⟩
      all_goals
        go_wp2_with fail
        refine (HJ.out _).mono ?_; rintro en w1 ⟨rfl, nj, rfl⟩
        go_wp2_with fail
        go_loopw [10, 11, 61] (fun c _ i wr => ∃ k : Nat, k ≤ 11 ∧ i = .int .i64 k ∧ Hd (wr.ownsRow w.heap.size 28 1 c k (fls (lnC.take k))) ∧ Hd (Below w.heap.size w wr)) (fun _ _ i _ => 11 - (intOf i).toNat)
        case atStart => exact ⟨0, Nat.zero_le _, rfl, ⟨World.ownsRow_nil _ _ _ _⟩, ⟨below_drewN (Below.refl _ _) _⟩⟩
        case round =>
          obtain ⟨k, hk, rfl, HO, HB⟩ := hrel
          by_cases hlt : k < 11
          · obtain ⟨s1, s2⟩ := odd_step k hlt
            have HT := Hd.mk (fls_take lnC k (by unfold lnC; simp; omega))
            generalize lnC.getD k 0 = q1 at *
            have hlt' : (k : Int) < 11 := by omega
            have k0 : (0 : Int) ≤ k := by omega
            go_wp2_with (first
              | (at_builtin; refine wpList_append_own _ rfl _ _ 58 rfl w.heap.size 28 i0 (.float .f64 0) 1 8 Try.underlying58 hi hz0 hz1 hz2 rfl (by decide) _ _ _ rfl (HO.out.alloc _) ⟨wr.heap.size, 0, none⟩ 1 1 [.float .f64 q1] rfl rfl ?c1 ?c2 ?c3 ?c4 ?c5 ?_)
              | fail)
            case c1 =>
              intro j u hj
              match j, hj with
              | 0, hj => simp at hj; subst hj; simp [Addr.add]
            case c2 => intro u hu; simp at hu; subst hu; rfl
            case c3 => unfold maxLen; omega
            case c4 => omega
            case c5 => have := HB.out.size; simp; omega
            · intro v' w1 hown' hgrow _
              rw [← HT.out] at hown'
              have HO' := Hd.mk hown'
              have HB' : Hd (Below w.heap.size w w1) := ⟨by
                refine (HB.out.alloc HB.out.size _).grown hgrow (by have := HB.out.size; simp; omega) ?_
                exact owns_block HO.out⟩
              clear hown' hgrow
              go_wp2_with fail
              refine ⟨⟨k + 1, by omega, by go_num, HO', HB'⟩, by simp [intOf]; omega⟩
          · obtain rfl : k = 11 := by omega
            have h := HO.out
            rw [show lnC.take 11 = lnC from rfl] at h
            obtain ⟨a', c', rfl, hu⟩ := fls_of_owns (l := lnC) h (F64_getD lnC lnC_64) (by decide)
            have HU := Hd.mk hu
            clear h hu
            rw [show lnC.length = 11 from rfl] at *
            go_wp2_with fail
            refine (HD.out _ _ _ _ ?hz ?hu).mono ?_
            case hz => exact F64_fres _ _ _ _
            case hu => exact HU.out.below fun b o v h => h
            rintro en w' ⟨r, n, rfl, hr, hc, rfl⟩
            have HR := Hd.mk hr
            have HC := Hd.mk hc
            clear hr hc
            go_wp2_with fail
            go_ret
            refine ⟨_, rfl, F64_fres _ _ _ _, ?_, below_drewN HB.out _⟩
            rw [cn_fadd _ _ _ (F64_fres _ _ _ _) (F64_fres _ _ _ _), cn_fmul _ _ _ HKF.out.1 F64_high, cn_fadd _ _ _ (F64_fres _ _ _ _) (F64_fres _ _ _ _), cn_fmul _ _ _ (F64_fres _ _ _ _) HR.out, cn_fmul _ _ _ two_w.w (F64_fres _ _ _ _), cn_fmul _ _ _ HKF.out.1 F64_low, HC.out,
              cn_fmul _ _ _ (F64_fres _ _ _ _) (F64_fres _ _ _ _), cn_fdiv _ _ _ (F64_fres _ _ _ _) (F64_fres _ _ _ _), cn_fsub _ _ _ HMF.out.1 one_w.w, cn_fadd _ _ _ HMF.out.1 one_w.w, cn_of _ HMF.out.2, HKF.out.2, cn_cns.1, cn_cns.2.1, cn_cns.2.2.1, cn_cns.2.2.2]
            rfl

theorem F64_maxW : F64 9218868437227405311 := ⟨by decide⟩
theorem max_facts : nn 9218868437227405311 = false ∧ rk 9218868437227405311 = 9218868437227405311 ∧ nn 0 = false ∧ rk 0 = 0 := by decide +kernel

set_option maxHeartbeats 3200000 in
/-- fn.Ln, of any float. -/
theorem ln_any (x : Nat) (hx : F64 x) (w : World) :
    Calls Try.prog 125 #[.float .f64 x] w (FRetB (fln (cn x)) w) := by
  obtain ⟨q1, q2, q3, q4⟩ := max_facts
  cases hn : nn x
  · rw [cn_of x hn]
    have o0 : (FloatKind.f64.format.order x x != some .eq) = false := by rw [bne, feq x x hx hx, hn]; simp
    by_cases h0 : mg x = 0
    · have HV : Hd (cn 18442240474082181120 = fln x) := ⟨by unfold fln; rw [hn, if_neg (by simp), if_pos h0]; decide +kernel⟩
      have hr : rk x = 0 := by unfold rk; rw [h0]; split <;> rfl
      have o1 : (FloatKind.f64.format.order x 0 == some .lt) = false := by rw [flt x 0 hx ⟨by decide⟩, hn, q3, q4, hr]; simp
      have o2 : (FloatKind.f64.format.order x 0 == some .eq) = true := by rw [feq x 0 hx ⟨by decide⟩, hn, q3, q4, hr]; simp
      clear h0 hr q1 q2 q3 q4
      go_enter Try.func125, Try.ntmps125
      go_wp2_with (go_at_call 71; refine (minf_neg _).mono ?_; rintro e w' ⟨rfl, rfl⟩)
      go_ret
      exact ⟨_, rfl, ⟨by decide⟩, HV.out, Below.refl _ _⟩
    · cases hs : ng x
      · by_cases hi : mg x = INF
        · have HV : Hd (cn x = fln x) := ⟨by rw [cn_of x hn]; unfold fln; rw [hn, if_neg (by simp), if_neg h0, hs, if_neg (by simp), if_pos hi]⟩
          have hr : rk x = 9218868437227405312 := by rw [rk_of_pos hs, hi]; unfold INF; rfl
          have o1 : (FloatKind.f64.format.order x 0 == some .lt) = false := by rw [flt x 0 hx ⟨by decide⟩, hn, q3, q4, hr]; simp
          have o2 : (FloatKind.f64.format.order x 0 == some .eq) = false := by rw [feq x 0 hx ⟨by decide⟩, hn, q3, q4, hr]; simp
          have o3 : (FloatKind.f64.format.order x 9218868437227405311 == some .gt) = true := by rw [fgt x _ hx F64_maxW, hn, q1, q2, hr]; simp
          clear h0 hr q1 q2 q3 q4 hi hs hn
          go_enter Try.func125, Try.ntmps125
          go_wp2_with go_in
          go_ret
          exact ⟨_, rfl, hx, HV.out, Below.refl _ _⟩
        · refine ln_mid x hx ?_ h0 hs w
          have : nn x = false := hn
          unfold nn INF at this; unfold fin INF; unfold INF at hi
          simp at this ⊢; omega
      · have HV : Hd (cn 9221120237041090561 = fln x) := ⟨by unfold fln; rw [hn, if_neg (by simp), if_neg h0, hs, if_pos rfl]; decide +kernel⟩
        have hr : rk x < 0 := by rw [rk_of_neg hs]; omega
        have o1 : (FloatKind.f64.format.order x 0 == some .lt) = true := by rw [flt x 0 hx ⟨by decide⟩, hn, q3, q4]; simpa using hr
        clear h0 hr q1 q2 q3 q4 hs hn
        go_enter Try.func125, Try.ntmps125
        go_wp2_with (go_at_call 70; refine (mnan_any _).mono ?_; rintro e w' ⟨rfl, rfl⟩)
        go_ret
        exact ⟨_, rfl, ⟨by decide⟩, HV.out, Below.refl _ _⟩
  · have HV : Hd (cn 9221120237041090561 = fln (cn x)) := ⟨by unfold fln; rw [nn_cn, hn, if_pos rfl]; decide +kernel⟩
    have o0 : (FloatKind.f64.format.order x x != some .eq) = true := by rw [bne, feq x x hx hx, hn]; simp
    clear hn q1 q2 q3 q4
    go_enter Try.func125, Try.ntmps125
    go_wp2_with (go_at_call 70; refine (mnan_any _).mono ?_; rintro e w' ⟨rfl, rfl⟩)
    go_ret
    exact ⟨_, rfl, ⟨by decide⟩, HV.out, Below.refl _ _⟩

end Go.Proofs.Yteikihidblcljaa

/- The walks of fn.Pow and of the reference's Pow. -/
namespace Go.Proofs.Yteikihidblcljaa
open Go.RowKit
set_option linter.unusedSimpArgs false
set_option linter.unusedVariables false

/-- Powers by squares. -/
def powF : Nat → Nat → Nat → Nat → Nat
  | 0, _, r, _ => r
  | f + 1, n, r, b => if n = 0 then r else powF f (n / 2) (if n % 2 = 1 then fmul r b else r) (if n / 2 = 0 then b else fmul b b)
theorem powF_zero (f r b : Nat) : powF f 0 r b = r := by cases f <;> rfl
/-- fn.Pow. -/
def fpow (x : Nat) (n : Int) : Nat := if 1048576 < n ∨ n < -1048576 then NaNc else if n < 0 then fdiv oneW (powF 64 n.natAbs oneW x) else powF 64 n.natAbs oneW x

theorem and_1 (m : Nat) (h : m < 9223372036854775808) : bits .and .i64 (m : Int) 1 = ((m % 2 : Nat) : Int) := by
  have h127 : (BitVec.ofInt 64 1).toNat = 2 ^ 1 - 1 := by decide
  have key : (BitVec.ofInt 64 (m : Int) &&& BitVec.ofInt 64 1).toNat = ((m : Int) % ((2 ^ 64 : Nat) : Int)).toNat % 2 ^ 1 := by
    rw [BitVec.toNat_and, BitVec.toNat_ofInt, h127, Nat.and_two_pow_sub_one_eq_mod]
  show IntKind.i64.wrap ((BitVec.ofInt 64 (m : Int) &&& BitVec.ofInt 64 1).toNat : Nat) = _
  rw [key, IntKind.wrap_i64]
  omega

end Go.Proofs.Yteikihidblcljaa

/- The walk of tenorlaw12.awake. -/
namespace Go.Proofs.Yteikihidblcljaa
open Go.RowKit

theorem aw1 : root (gP [13839561654909534208, 0, 4607182418800017408]) 0 4611686018427387904 = (4611686018427387904, 2, 0) := by decide +kernel
theorem aw2 : root (gP [0, 4607182418800017408]) 13830554455654793216 4607182418800017408 = (0, 3, 0) := by decide +kernel
theorem aw3 : root (gP [4607182418800017408]) 0 4607182418800017408 = (0, 2, 120) := by decide +kernel

theorem fls_three (w : World) (x y z : Nat) (t : TypeId) (hx : F64 x) (hy : F64 y) (hz : F64 z) : Fls (w.alloc (.cells #[.float .f64 x, .float .f64 y, .float .f64 z] t)) (some ⟨w.heap.size, 0, none⟩) [x, y, z] where
  nil := fun h => by cases h
  cell := fun b o v h i hi => by
    cases h
    refine ⟨rfl, ?_⟩
    match i, hi with
    | 0, _ => go_simp
    | 1, _ => go_simp
    | 2, _ => go_simp
  wf := fun i => by
    match i with
    | 0 => exact hx
    | 1 => exact hy
    | 2 => exact hz
    | i + 3 => exact F64_0
  len := by simp
theorem fls_two (w : World) (x y : Nat) (t : TypeId) (hx : F64 x) (hy : F64 y) : Fls (w.alloc (.cells #[.float .f64 x, .float .f64 y] t)) (some ⟨w.heap.size, 0, none⟩) [x, y] where
  nil := fun h => by cases h
  cell := fun b o v h i hi => by
    cases h
    refine ⟨rfl, ?_⟩
    match i, hi with
    | 0, _ => go_simp
    | 1, _ => go_simp
  wf := fun i => by
    match i with
    | 0 => exact hx
    | 1 => exact hy
    | i + 2 => exact F64_0
  len := by simp
theorem fls_one (w : World) (x : Nat) (t : TypeId) (hx : F64 x) : Fls (w.alloc (.cells #[.float .f64 x] t)) (some ⟨w.heap.size, 0, none⟩) [x] where
  nil := fun h => by cases h
  cell := fun b o v h i hi => by
    cases h
    refine ⟨rfl, ?_⟩
    match i, hi with
    | 0, _ => go_simp
  wf := fun i => by
    match i with
    | 0 => exact hx
    | i + 1 => exact F64_0
  len := by simp

end Go.Proofs.Yteikihidblcljaa

/- The walk of tenorlaw4.awake. -/
namespace Go.Proofs.Yteikihidblcljaa
open Go.RowKit
set_option linter.unusedSimpArgs false
set_option linter.unusedVariables false

theorem of_cn {r c : Nat} (h : cn r = c) (hc : nn c = false) : r = c := by
  have h1 : nn r = false := by rw [← nn_cn, h]; exact hc
  rwa [cn_of r h1] at h

theorem a4_1 : fpow (cn 4611686018427387904) 10 = 4652218415073722368 ∧ nn 4652218415073722368 = false := by decide +kernel
theorem a4_2 : fexp (cn 0) = 4607182418800017408 ∧ nn 4607182418800017408 = false := by decide +kernel
theorem a4_3 : fln (cn 4607182418800017408) = 0 ∧ nn 0 = false := by decide +kernel
theorem a4_4 : horn ([4607182418800017408, 4611686018427387904, 4613937818241073152].map cn) (cn 4611686018427387904) = 4625478292286210048 ∧ nn 4625478292286210048 = false := by decide +kernel

end Go.Proofs.Yteikihidblcljaa

/- Plain: a polynomial's root does not hang on which NaN a coefficient is. No program. -/
namespace Go.Proofs.Yteikihidblcljaa

/-- Alike but for which NaN. -/
theorem bis_congr {g h : Nat → Nat} (e : ∀ y, F64 y → cn (g y) = cn (h y)) (sa : Bool) : ∀ k lo hi c, nn lo = false → nn hi = false → bis g sa k lo hi c = bis h sa k lo hi c := by
  have en : ∀ y, F64 y → nn (g y) = nn (h y) := fun y fy => by rw [← nn_cn (g y), e y fy, nn_cn]
  have er : ∀ y, F64 y → nn (h y) = false → rk (g y) = rk (h y) := fun y fy hy => by
    have := e y fy
    rw [cn_of _ (by rw [en y fy]; exact hy), cn_of _ hy] at this
    rw [this]
  intro k
  induction k with
  | zero => intro lo hi c _ _; rfl
  | succ k ih =>
    intro lo hi c n1 n2
    obtain ⟨_, fm, nm⟩ := md_rk n1 n2
    unfold bis
    rw [en _ fm]
    split
    · rfl
    · by_cases hn : nn (h (md lo hi)) = true
      · rw [if_pos hn, if_pos hn]
      · have hn' : nn (h (md lo hi)) = false := by simpa using hn
        rw [if_neg hn, if_neg hn, er _ fm hn', ih _ _ _ nm n2, ih _ _ _ n1 nm]

theorem root_congr {g h : Nat → Nat} (e : ∀ y, F64 y → cn (g y) = cn (h y)) (lo hi : Nat) (flo : F64 lo) (fhi : F64 hi) : root g lo hi = root h lo hi := by
  have en : ∀ y, F64 y → nn (g y) = nn (h y) := fun y fy => by rw [← nn_cn (g y), e y fy, nn_cn]
  have er : ∀ y, F64 y → nn (h y) = false → rk (g y) = rk (h y) := fun y fy hy => by
    have := e y fy
    rw [cn_of _ (by rw [en y fy]; exact hy), cn_of _ hy] at this
    rw [this]
  unfold root
  rw [en _ flo, en _ fhi]
  by_cases h0 : okEnds lo hi = false
  · rw [if_pos h0, if_pos h0]
  · rw [if_neg h0, if_neg h0]
    have hk : okEnds lo hi = true := by simpa using h0
    unfold okEnds at hk
    simp only [Bool.and_eq_true] at hk
    have n1 := nn_fin lo hk.1.1
    have n2 := nn_fin hi hk.1.2
    by_cases h1 : nn (h lo) = true
    · rw [if_pos h1, if_pos h1]
    · rw [if_neg h1, if_neg h1]
      by_cases h2 : nn (h hi) = true
      · rw [if_pos h2, if_pos h2]
      · rw [if_neg h2, if_neg h2, er _ flo (by simpa using h1), er _ fhi (by simpa using h2), bis_congr e _ _ _ _ _ n1 n2]

theorem cn_fin_add (x y : Nat) : cn (fadd x y) = fadd x y := by
  unfold fadd
  cases h : dbl.add x y with
  | none => exact cn_nan _ nn_NaNc
  | some r => exact cn_of _ (nn_add h)

theorem fadd_cn (x y : Nat) (hx : F64 x) (hy : F64 y) : fadd (cn x) (cn y) = fadd x y := by unfold fadd; rw [add_cn x y hx hy]
theorem fmul_cn (x y : Nat) (hx : F64 x) (hy : F64 y) : fmul (cn x) (cn y) = fmul x y := by unfold fmul; rw [mul_cn x y hx hy]

theorem F64_horn (l : List Nat) (x : Nat) (h : ∀ i, F64 (l.getD i 0)) : F64 (horn l x) := by
  cases l with
  | nil => exact F64_0
  | cons a r => cases r with
    | nil => exact h 0
    | cons b r => exact F64_fadd _ _

theorem horn_cn : ∀ (l : List Nat) (x : Nat), (∀ i, F64 (l.getD i 0)) → F64 x → cn (horn l x) = horn (l.map cn) (cn x)
  | [], x, _, _ => cn_zero
  | [c], x, _, _ => rfl
  | a :: b :: r, x, h, hx => by
    have ih := horn_cn (b :: r) x (fun i => h (i + 1)) hx
    show cn (fadd (fmul (horn (b :: r) x) x) a) = fadd (fmul (horn ((b :: r).map cn) (cn x)) (cn x)) (cn a)
    rw [← ih, fmul_cn _ _ (F64_horn (b :: r) x (fun i => h (i + 1))) hx, cn_fin_add]
    have ha : F64 a := h 0
    have hm := F64_fmul (horn (b :: r) x) x
    rw [← fadd_cn _ (cn a) hm (F64_cn a ha), cn_cn, fadd_cn _ a hm ha]

end Go.Proofs.Yteikihidblcljaa

/- The walk of tenorlaw1.Are: two lists that are the same. -/
namespace Go.Proofs.Yteikihidblcljaa
open Go.RowKit
set_option linter.unusedSimpArgs false
set_option linter.unusedVariables false

theorem is_any' (x u : Nat) (hx : F64 x) (hu : F64 u) (w : World) :
    Calls Try.prog 21 #[.float .f64 x, .int .u64 u] w fun e w' => e = .returned (.bool (same x u)) ∧ w' = w :=
  (is_any x u hx hu w).mono fun _ _ h => ⟨h.1, h.2.symm⟩
theorem is_true (x u : Nat) (hx : F64 x) (hu : F64 u) (h : same x u = true) (w : World) :
    Calls Try.prog 21 #[.float .f64 x, .int .u64 u] w fun e w' => e = .returned (.bool true) ∧ w' = w := by
  have := is_any' x u hx hu w
  rwa [h] at this

theorem Fls.somK {w : World} {a : Option Addr} {l : List Nat} (h : Fls w a l) (hp : 0 < l.length) : ∃ b o, a = Option.some ⟨b, o, none⟩ := by
  cases a with
  | none => have := h.nil rfl; rw [this] at hp; simp at hp
  | some p => obtain ⟨b, o, v⟩ := p; obtain ⟨rfl, _⟩ := h.cell b o v rfl 0 hp; exact ⟨b, o, rfl⟩
theorem Us.somK {w : World} {a : Option Addr} {l : List Nat} (h : Us w a l) (hp : 0 < l.length) : ∃ b o, a = Option.some ⟨b, o, none⟩ := by
  cases a with
  | none => have := h.nil rfl; rw [this] at hp; simp at hp
  | some p => obtain ⟨b, o, v⟩ := p; obtain ⟨rfl, _⟩ := h.cell b o v rfl 0 hp; exact ⟨b, o, rfl⟩

end Go.Proofs.Yteikihidblcljaa
