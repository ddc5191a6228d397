/- The walks of the reference's small functions on bits: Number, Rank, Lt, At, Mid, Size, Negative, IsInf, Flip. -/
import Derived.Test.YtjhkjekbadbgnaaIs
import Derived.Test.YtjhkjekbadbgnaaOr
namespace Go.Proofs.Ytjhkjekbadbgnaa
open Go.RowKit

theorem fin_int (x : Nat) : decide ((mg x : Int) < 9218868437227405312) = fin x := by
  unfold fin INF; rw [Bool.eq_iff_iff]; simp; omega
theorem ng_int (x : Nat) : decide ((9223372036854775808 : Int) ≤ x) = ng x := by
  unfold ng; rw [Bool.eq_iff_iff]; simp; omega

set_option maxHeartbeats 800000 in
theorem rNumber_any (u : Nat) (hu : F64 u) (w : World) :
    Calls Try.prog 46 #[.int .u64 u] w fun e w' => e = .returned (.bool (fin u)) ∧ w = w' := by
  have h1 := bits_mg u hu
  have H := Hd.mk (fin_int u)
  go_enter Try.func46, Try.ntmps46
  go_wp2
  go_ret
  exact ⟨ret_bool H.out, rfl⟩

set_option maxHeartbeats 800000 in
theorem rSize_any (u : Nat) (hu : F64 u) (w : World) :
    Calls Try.prog 50 #[.int .u64 u] w fun e w' => e = .returned (.int .u64 (mg u)) ∧ w = w' := by
  have h1 := bits_mg u hu
  go_enter Try.func50, Try.ntmps50
  go_wp2
  go_ret
  exact ⟨rfl, rfl⟩

set_option maxHeartbeats 800000 in
theorem rNegative_any (u : Nat) (w : World) :
    Calls Try.prog 51 #[.int .u64 u] w fun e w' => e = .returned (.bool (ng u)) ∧ w = w' := by
  have H := Hd.mk (ng_int u)
  go_enter Try.func51, Try.ntmps51
  go_wp2
  go_ret
  exact ⟨ret_bool H.out, rfl⟩

theorem pos_bits {x : Nat} (hx : F64 x) (h : ng x = false) : (x : Int) = mg x ∧ decide ((9223372036854775808 : Int) ≤ x) = false := by
  have := hx.out; unfold ng at h; unfold mg; simp at h; refine ⟨by omega, by simp; omega⟩
theorem neg_bits {x : Nat} (hx : F64 x) (h : ng x = true) : IntKind.u64.wrap ((x : Int) - 9223372036854775808) = mg x ∧ decide ((9223372036854775808 : Int) ≤ x) = true := by
  have := hx.out; unfold ng at h; unfold mg; simp at h; rw [IntKind.wrap_u64]; refine ⟨by omega, by simp; omega⟩

set_option maxHeartbeats 800000 in
theorem rRank_nan (x : Nat) (hx : F64 x) (hn : nn x = true) (w : World) :
    Calls Try.prog 79 #[.int .u64 x] w fun e w' => e = .returned (.tuple #[.int .i64 0, .bool false]) ∧ w = w' := by
  go_enter Try.func79, Try.ntmps79
  go_wp2_with (go_at_call 49; refine (rIsNaN_any _ hx _).mono ?_; rintro e w' ⟨rfl, rfl⟩)
  go_ret2
  exact ⟨rfl, rfl⟩

set_option maxHeartbeats 800000 in
theorem rRank_any (x : Nat) (hx : F64 x) (hn : nn x = false) (w : World) :
    Calls Try.prog 79 #[.int .u64 x] w fun e w' => e = .returned (.tuple #[.int .i64 (rk x), .bool true]) ∧ w = w' := by
  have hb : (0 : Int) ≤ mg x := by omega
  have hb2 : (mg x : Int) ≤ 9223372036854775807 := by have := mg_lt x; omega
  cases hng : ng x
  · have H : Hd ((x : Int) = rk x) := ⟨by rw [rk_of_pos hng]; exact (pos_bits hx hng).1⟩
    have h1 := (pos_bits hx hng).2
    have hb3 : (x : Int) ≤ 9223372036854775807 := by have := (pos_bits hx hng).1; omega
    clear hng
    go_enter Try.func79, Try.ntmps79
    go_wp2_with (go_at_call 49; refine (rIsNaN_any _ hx _).mono ?_; rintro e w' ⟨rfl, rfl⟩)
    go_ret2
    exact ⟨ret2_int H.out, rfl⟩
  · have H : Hd (-(mg x : Int) = rk x) := ⟨by rw [rk_of_neg hng]⟩
    have h1 := (neg_bits hx hng).2
    have h2 := (neg_bits hx hng).1
    clear hng
    go_enter Try.func79, Try.ntmps79
    go_wp2_with (go_at_call 49; refine (rIsNaN_any _ hx _).mono ?_; rintro e w' ⟨rfl, rfl⟩)
    go_ret2
    exact ⟨ret2_int H.out, rfl⟩

/-- Below, of bits: false of a NaN. -/
def ltB (x y : Nat) : Bool := !nn x && !nn y && decide (rk x < rk y)

set_option maxHeartbeats 800000 in
theorem rLt_any (x y : Nat) (hx : F64 x) (hy : F64 y) (w : World) :
    Calls Try.prog 47 #[.int .u64 x, .int .u64 y] w fun e w' => e = .returned (.bool (ltB x y)) ∧ w = w' := by
  cases hn : nn x <;> cases hm : nn y
  · have H : Hd (decide (rk x < rk y) = ltB x y) := ⟨by unfold ltB; rw [hn, hm]; rfl⟩
    have HN := Hd.mk hn
    have HM := Hd.mk hm
    clear hn hm
    go_enter Try.func47, Try.ntmps47
    go_wp2_with fail
    refine (rRank_any x hx HN.out _).mono ?_; rintro e w' ⟨rfl, rfl⟩
    go_wp2_with fail
    refine (rRank_any y hy HM.out _).mono ?_; rintro e w' ⟨rfl, rfl⟩
    go_wp2_with fail
    go_ret
    exact ⟨ret_bool H.out, rfl⟩
  · have H : Hd (false = ltB x y) := ⟨by unfold ltB; rw [hn, hm]; rfl⟩
    have HN := Hd.mk hn
    have HM := Hd.mk hm
    clear hn hm
    go_enter Try.func47, Try.ntmps47
    go_wp2_with fail
    refine (rRank_any x hx HN.out _).mono ?_; rintro e w' ⟨rfl, rfl⟩
    go_wp2_with fail
    refine (rRank_nan y hy HM.out _).mono ?_; rintro e w' ⟨rfl, rfl⟩
    go_wp2_with fail
    go_ret
    exact ⟨ret_bool H.out, rfl⟩
  · have H : Hd (false = ltB x y) := ⟨by unfold ltB; rw [hn, hm]; rfl⟩
    have HN := Hd.mk hn
    have HM := Hd.mk hm
    clear hn hm
    go_enter Try.func47, Try.ntmps47
    go_wp2_with fail
    refine (rRank_nan x hx HN.out _).mono ?_; rintro e w' ⟨rfl, rfl⟩
    go_wp2_with fail
    refine (rRank_any y hy HM.out _).mono ?_; rintro e w' ⟨rfl, rfl⟩
    go_wp2_with fail
    go_ret
    exact ⟨ret_bool H.out, rfl⟩
  · have H : Hd (false = ltB x y) := ⟨by unfold ltB; rw [hn, hm]; rfl⟩
    have HN := Hd.mk hn
    have HM := Hd.mk hm
    clear hn hm
    go_enter Try.func47, Try.ntmps47
    go_wp2_with fail
    refine (rRank_nan x hx HN.out _).mono ?_; rintro e w' ⟨rfl, rfl⟩
    go_wp2_with fail
    refine (rRank_nan y hy HM.out _).mono ?_; rintro e w' ⟨rfl, rfl⟩
    go_wp2_with fail
    go_ret
    exact ⟨ret_bool H.out, rfl⟩

set_option maxHeartbeats 800000 in
theorem rAt_any (n : Int) (h0 : -9218868437227405312 ≤ n) (h1 : n ≤ 9218868437227405312) (w : World) :
    Calls Try.prog 98 #[.int .i64 n] w fun e w' => e = .returned (.tuple #[.int .u64 (atk n), .bool true]) ∧ w = w' := by
  have c1 : decide (n < -9218868437227405312) = false := by simp; omega
  have c2 : decide (9218868437227405312 < n) = false := by simp; omega
  by_cases h : n < 0
  · have c3 : decide (n < 0) = true := by simp; omega
    have H : Hd (9223372036854775808 + -n = atk n) := ⟨by unfold atk; rw [if_pos h]; omega⟩
    have h2 : 0 ≤ -n := by omega
    have h3 : -n ≤ 9223372036854775807 := by omega
    clear h h1 h0
    go_enter Try.func98, Try.ntmps98
    go_wp2
    go_ret2
    exact ⟨ret2_int H.out, rfl⟩
  · have c3 : decide (n < 0) = false := by simp; omega
    have H : Hd (n = atk n) := ⟨by rw [← atk_pos (by omega)]; omega⟩
    have h2 : 0 ≤ n := by omega
    have h3 : n ≤ 9223372036854775807 := by omega
    clear h h1 h0
    go_enter Try.func98, Try.ntmps98
    go_wp2
    go_ret2
    exact ⟨ret2_int H.out, rfl⟩

set_option maxHeartbeats 800000 in
theorem rMid_any (x y : Nat) (hx : F64 x) (hy : F64 y) (hn : nn x = false) (hm : nn y = false) (w : World) :
    Calls Try.prog 80 #[.int .u64 x, .int .u64 y] w fun e w' => e = .returned (.tuple #[.int .u64 (atk ((rk x + rk y) / 2)), .bool true]) ∧ w = w' := by
  have HN := Hd.mk hn
  have HM := Hd.mk hm
  clear hn hm
  go_enter Try.func80, Try.ntmps80
  go_wp2_with fail
  refine (rRank_any x hx HN.out _).mono ?_; rintro e w' ⟨rfl, rfl⟩
  go_wp2_with fail
  refine (rRank_any y hy HM.out _).mono ?_; rintro e w' ⟨rfl, rfl⟩
  go_wp2_with fail
  have hb := rk_bd x HN.out
  have hb' := rk_bd y HM.out
  have hm := rmid64 (rk x) (rk y) (by omega) (by omega) (by omega) (by omega)
  rw [hm]
  clear hm
  refine (rAt_any _ (by omega) (by omega) _).mono ?_; rintro e w' ⟨rfl, rfl⟩
  clear hb hb'
  go_wp2_with fail
  go_ret2
  exact ⟨rfl, rfl⟩

end Go.Proofs.Ytjhkjekbadbgnaa
