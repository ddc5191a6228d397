/- The walks of package ieee's small functions. -/
import Derived.Test.YtjhkjekbadbgnaaFop
import Derived.Test.YtjhkjekbadbgnaaPm
import Derived.KernelRfl
namespace Go.Proofs.Ytjhkjekbadbgnaa
open Go.RowKit

@[go_sem] theorem run_f64bits (x : Nat) (w : World) : (callFunc 38 #[.float .f64 x]).run Try.prog w = .ok (.value (.int .u64 x)) w := by
  rw [run_callFunc_extern Try.func38 (by kernel_rfl) (by kernel_rfl) (by kernel_rfl) (e := Extern.MathFloatBits.float64bits) (by kernel_rfl)]; rfl
@[go_sem] theorem run_f64from (n : Int) (w : World) : (callFunc 81 #[.int .u64 n]).run Try.prog w = .ok (.value (.float .f64 n.toNat)) w := by
  rw [run_callFunc_extern Try.func81 (by kernel_rfl) (by kernel_rfl) (by kernel_rfl) (e := Extern.MathFloatBits.float64frombits) (by kernel_rfl)]; rfl

theorem ret_int {k : IntKind} {a b : Int} (h : a = b) : Ending.returned (.int k a) = .returned (.int k b) := by rw [h]
theorem ret_bool {a b : Bool} (h : a = b) : Ending.returned (.bool a) = .returned (.bool b) := by rw [h]
theorem ret_float {a b : Nat} (h : a = b) : Ending.returned (.float .f64 a) = .returned (.float .f64 b) := by rw [h]

set_option maxHeartbeats 400000 in
theorem apiBits_any (x : Nat) (w : World) :
    Calls Try.prog 18 #[.float .f64 x] w fun e w' => e = .returned (.int .u64 x) ∧ w = w' := by
  go_enter Try.func18, Try.ntmps18
  go_wp2
  go_ret
  exact ⟨rfl, rfl⟩

set_option maxHeartbeats 400000 in
theorem apiFloat_any (n : Int) (w : World) :
    Calls Try.prog 78 #[.int .u64 n] w fun e w' => e = .returned (.float .f64 n.toNat) ∧ w = w' := by
  go_enter Try.func78, Try.ntmps78
  go_wp2
  go_ret
  exact ⟨rfl, rfl⟩

set_option maxHeartbeats 400000 in
theorem size_any (x : Nat) (hx : F64 x) (w : World) :
    Calls Try.prog 77 #[.float .f64 x] w fun e w' => e = .returned (.int .u64 (mg x)) ∧ w = w' := by
  go_enter Try.func77, Try.ntmps77
  go_wp2
  go_ret
  exact ⟨ret_int (bits_mg x hx), rfl⟩

set_option maxHeartbeats 800000 in
theorem class_any (x : Nat) (hx : F64 x) (w : World) :
    Calls Try.prog 73 #[.float .f64 x] w fun e w' => e = .returned (.int .i64 (cls x)) ∧ w = w' := by
  rcases cls_ways x with ⟨h0, H⟩ | ⟨h0, h1, H⟩ | ⟨h0, h1, h2, H⟩ | ⟨h0, h1, h2, h3, H⟩ | ⟨h0, h1, h2, h3, H⟩ <;>
  · go_enter Try.func73, Try.ntmps73
    go_wp2_with (go_at_call 77; refine (size_any _ hx _).mono ?_; rintro e w' ⟨rfl, rfl⟩)
    go_ret
    exact ⟨ret_int H.out, rfl⟩

theorem nan_of (x : Nat) (b : Bool) (h : nn x = b) : (cls x == 5) = b := (cls_nan x).trans h
theorem nan_of' (x : Nat) (b : Bool) (h : nn x = b) : (cls x != 5) = !b := by rw [bne, nan_of x b h]

set_option maxHeartbeats 800000 in
theorem negative_any (x : Nat) (hx : F64 x) (hn : nn x = false) (w : World) :
    Calls Try.prog 76 #[.float .f64 x] w fun e w' => e = .returned (.bool (ng x)) ∧ w = w' := by
  have h1 : (cls x != 5) = true := nan_of' x _ hn
  have H2 := Hd.mk (ng_div x hx)
  clear hn
  go_enter Try.func76, Try.ntmps76
  go_wp2_with (first | (go_at_call 73; refine (class_any _ hx _).mono ?_; rintro e w' ⟨rfl, rfl⟩) | (go_at_call 18; refine (apiBits_any _ _).mono ?_; rintro e w' ⟨rfl, rfl⟩))
  go_ret
  exact ⟨ret_bool H2.out, rfl⟩

set_option maxHeartbeats 800000 in
theorem number_any (x : Nat) (hx : F64 x) (w : World) :
    Calls Try.prog 40 #[.float .f64 x] w fun e w' => e = .returned (.bool (fin x)) ∧ w = w' := by
  have H := Hd.mk (cls_fin x)
  go_enter Try.func40, Try.ntmps40
  go_wp2_with (go_at_call 73; refine (class_any _ hx _).mono ?_; rintro e w' ⟨rfl, rfl⟩)
  go_ret
  exact ⟨ret_bool H.out, rfl⟩

set_option maxHeartbeats 800000 in
theorem snan_any (x : Nat) (hx : F64 x) (w : World) :
    Calls Try.prog 42 #[.float .f64 x] w fun e w' => e = .returned (.bool (nn x)) ∧ w = w' := by
  have H := Hd.mk (cls_nan x)
  go_enter Try.func42, Try.ntmps42
  go_wp2_with (go_at_call 73; refine (class_any _ hx _).mono ?_; rintro e w' ⟨rfl, rfl⟩)
  go_ret
  exact ⟨ret_bool H.out, rfl⟩

set_option maxHeartbeats 800000 in
theorem rank_nan (x : Nat) (hx : F64 x) (hn : nn x = true) (w : World) :
    Calls Try.prog 44 #[.float .f64 x] w fun e w' => e = .returned (.tuple #[.int .i64 0, .bool false]) ∧ w = w' := by
  have h1 : (cls x == 5) = true := nan_of x _ hn
  clear hn
  go_enter Try.func44, Try.ntmps44
  go_wp2_with (first | (go_at_call 73; refine (class_any _ hx _).mono ?_; rintro e w' ⟨rfl, rfl⟩) | fail)
  go_ret2
  exact ⟨rfl, rfl⟩

theorem ret2_int {k : IntKind} {a b : Int} {v : Value} (h : a = b) : Ending.returned (.tuple #[.int k a, v]) = .returned (.tuple #[.int k b, v]) := by rw [h]

theorem ret2_float {a b : Nat} {v : Value} (h : a = b) : Ending.returned (.tuple #[.float .f64 a, v]) = .returned (.tuple #[.float .f64 b, v]) := by rw [h]

set_option maxHeartbeats 800000 in
theorem rank_any (x : Nat) (hx : F64 x) (hn : nn x = false) (w : World) :
    Calls Try.prog 44 #[.float .f64 x] w fun e w' => e = .returned (.tuple #[.int .i64 (rk x), .bool true]) ∧ w = w' := by
  have h1 : (cls x == 5) = false := nan_of x _ hn
  have HN := Hd.mk hn
  clear hn
  have hb : (0 : Int) ≤ mg x := by omega
  have hb2 : (mg x : Int) ≤ 9223372036854775807 := by have := mg_lt x; omega
  cases hng : ng x
  · have H : Hd ((mg x : Int) = rk x) := ⟨by rw [rk_of_pos hng]⟩
    go_enter Try.func44, Try.ntmps44
    go_wp2_with (first | (go_at_call 73; refine (class_any _ hx _).mono ?_; rintro e w' ⟨rfl, rfl⟩) | (go_at_call 76; refine (negative_any _ hx HN.out _).mono ?_; rintro e w' ⟨rfl, rfl⟩) | (go_at_call 77; refine (size_any _ hx _).mono ?_; rintro e w' ⟨rfl, rfl⟩))
    go_ret2
    exact ⟨ret2_int H.out, rfl⟩
  · have H : Hd (-(mg x : Int) = rk x) := ⟨by rw [rk_of_neg hng]⟩
    go_enter Try.func44, Try.ntmps44
    go_wp2_with (first | (go_at_call 73; refine (class_any _ hx _).mono ?_; rintro e w' ⟨rfl, rfl⟩) | (go_at_call 76; refine (negative_any _ hx HN.out _).mono ?_; rintro e w' ⟨rfl, rfl⟩) | (go_at_call 77; refine (size_any _ hx _).mono ?_; rintro e w' ⟨rfl, rfl⟩))
    go_ret2
    exact ⟨ret2_int H.out, rfl⟩

set_option maxHeartbeats 800000 in
theorem at_pos (n : Int) (h0 : 0 ≤ n) (h1 : n ≤ 9218868437227405312) (w : World) :
    Calls Try.prog 75 #[.int .i64 n] w fun e w' => e = .returned (.tuple #[.float .f64 (atk n), .bool true]) ∧ w = w' := by
  have c1 : decide (n < -9218868437227405312) = false := by simp; omega
  have c2 : decide (9218868437227405312 < n) = false := by simp; omega
  have c3 : decide (n < 0) = false := by simp; omega
  have H : Hd (n.toNat = atk n) := ⟨by rw [atk_pos h0]⟩
  have h2 : n ≤ 9223372036854775807 := by omega
  clear h1
  go_enter Try.func75, Try.ntmps75
  go_wp2_with (go_at_call 78; refine (apiFloat_any _ _).mono ?_; rintro e w' ⟨rfl, rfl⟩)
  go_ret2
  exact ⟨ret2_float H.out, rfl⟩

set_option maxHeartbeats 800000 in
theorem at_neg (n : Int) (h0 : n < 0) (h1 : -9218868437227405312 ≤ n) (w : World) :
    Calls Try.prog 75 #[.int .i64 n] w fun e w' => e = .returned (.tuple #[.float .f64 (atk n), .bool true]) ∧ w = w' := by
  have c1 : decide (n < -9218868437227405312) = false := by simp; omega
  have c2 : decide (9218868437227405312 < n) = false := by simp; omega
  have c3 : decide (n < 0) = true := by simp; omega
  have H : Hd ((bits .or .u64 (-n) 9223372036854775808).toNat = atk n) := ⟨by rw [atk_neg h0 h1]⟩
  have h2 : 0 ≤ -n := by omega
  have h3 : -n ≤ 9223372036854775807 := by omega
  clear h1
  go_enter Try.func75, Try.ntmps75
  go_wp2_with (go_at_call 78; refine (apiFloat_any _ _).mono ?_; rintro e w' ⟨rfl, rfl⟩)
  go_ret2
  exact ⟨ret2_float H.out, rfl⟩

theorem at_any (n : Int) (h0 : -9218868437227405312 ≤ n) (h1 : n ≤ 9218868437227405312) (w : World) :
    Calls Try.prog 75 #[.int .i64 n] w fun e w' => e = .returned (.tuple #[.float .f64 (atk n), .bool true]) ∧ w = w' := by
  by_cases h : n < 0
  · exact at_neg n h h0 w
  · exact at_pos n (by omega) h1 w

set_option maxHeartbeats 800000 in
theorem at_out (n : Int) (h0 : n < -9218868437227405312 ∨ 9218868437227405312 < n) (w : World) :
    Calls Try.prog 75 #[.int .i64 n] w fun e w' => e = .returned (.tuple #[.float .f64 0, .bool false]) ∧ w = w' := by
  by_cases h : n < -9218868437227405312
  · have c1 : decide (n < -9218868437227405312) = true := by simp; omega
    clear h h0
    go_enter Try.func75, Try.ntmps75
    go_wp2
    go_ret2
    exact ⟨rfl, rfl⟩
  · have c1 : decide (n < -9218868437227405312) = false := by simp; omega
    have c2 : decide (9218868437227405312 < n) = true := by simp; omega
    clear h h0
    go_enter Try.func75, Try.ntmps75
    go_wp2
    go_ret2
    exact ⟨rfl, rfl⟩

set_option maxHeartbeats 800000 in
theorem ranks_any (x y : Nat) (hx : F64 x) (hy : F64 y) (hn : nn x = false) (hm : nn y = false) (w : World) :
    Calls Try.prog 74 #[.float .f64 x, .float .f64 y] w fun e w' => e = .returned (.tuple #[.int .i64 (rk x), .int .i64 (rk y), .bool true]) ∧ w = w' := by
  have HN := Hd.mk hn
  have HM := Hd.mk hm
  clear hn hm
  go_enter Try.func74, Try.ntmps74
  go_wp2_with fail
  refine (rank_any x hx HN.out _).mono ?_; rintro e w' ⟨rfl, rfl⟩
  go_wp2_with fail
  refine (rank_any y hy HM.out _).mono ?_; rintro e w' ⟨rfl, rfl⟩
  go_wp2_with fail
  go_ret3
  exact ⟨rfl, rfl⟩

set_option maxHeartbeats 800000 in
theorem mid_any (x y : Nat) (hx : F64 x) (hy : F64 y) (hn : nn x = false) (hm : nn y = false) (w : World) :
    Calls Try.prog 43 #[.float .f64 x, .float .f64 y] w fun e w' => e = .returned (.tuple #[.float .f64 (atk ((rk x + rk y) / 2)), .bool true]) ∧ w = w' := by
  have HN := Hd.mk hn
  have HM := Hd.mk hm
  clear hn hm
  go_enter Try.func43, Try.ntmps43
  go_wp2_with fail
  refine (ranks_any x y hx hy HN.out HM.out _).mono ?_; rintro e w' ⟨rfl, rfl⟩
  go_wp2_with fail
  have hb := rk_bd x HN.out
  have hb' := rk_bd y HM.out
  have hm := mid64 (rk x) (rk y) (by omega) (by omega) (by omega) (by omega)
  rw [hm]
  clear hm
  refine (at_any _ (by omega) (by omega) _).mono ?_; rintro e w' ⟨rfl, rfl⟩
  clear hb hb'
  go_wp2_with fail
  go_ret2
  exact ⟨rfl, rfl⟩

/-- The float so many ranks on, or x. -/
def stp (x : Nat) (d : Int) : Nat := if nn x then x else if rk x + d < -9218868437227405312 ∨ 9218868437227405312 < rk x + d then x else atk (rk x + d)
theorem stp_1 {x : Nat} {d : Int} (h : nn x = true) : x = stp x d := by unfold stp; rw [if_pos h]
theorem stp_2 {x : Nat} {d : Int} (h : nn x = false) (h2 : rk x + d < -9218868437227405312 ∨ 9218868437227405312 < rk x + d) : x = stp x d := by unfold stp; rw [if_neg (by simp [h]), if_pos h2]
theorem stp_3 {x : Nat} {d : Int} (h : nn x = false) (h2 : ¬ (rk x + d < -9218868437227405312 ∨ 9218868437227405312 < rk x + d)) : atk (rk x + d) = stp x d := by unfold stp; rw [if_neg (by simp [h]), if_neg h2]

set_option maxHeartbeats 800000 in
theorem step_any (x : Nat) (d : Int) (hx : F64 x) (hd : -1 ≤ d ∧ d ≤ 1) (w : World) :
    Calls Try.prog 53 #[.float .f64 x, .int .i64 d] w fun e w' => e = .returned (.float .f64 (stp x d)) ∧ w = w' := by
  cases hn : nn x
  · have HN := Hd.mk hn
    by_cases h2 : rk x + d < -9218868437227405312 ∨ 9218868437227405312 < rk x + d
    · have H := Hd.mk (stp_2 hn h2)
      have H2 := Hd.mk h2
      have HB := Hd.mk (rk_bd x hn)
      have h3 : -9223372036854775808 ≤ rk x + d := by have := rk_bd x hn; omega
      have h4 : rk x + d ≤ 9223372036854775807 := by have := rk_bd x hn; omega
      clear hn h2 hd
      go_enter Try.func53, Try.ntmps53
      go_wp2_with fail
      refine (rank_any x hx HN.out _).mono ?_; rintro e w' ⟨rfl, rfl⟩
      go_wp2_with fail
      refine (at_out _ H2.out _).mono ?_; rintro e w' ⟨rfl, rfl⟩
      go_wp2_with fail
      go_ret
      exact ⟨ret_float H.out, rfl⟩
    · have H := Hd.mk (stp_3 hn h2)
      have H2 := Hd.mk h2
      have h3 : -9223372036854775808 ≤ rk x + d := by have := rk_bd x hn; omega
      have h4 : rk x + d ≤ 9223372036854775807 := by have := rk_bd x hn; omega
      clear hn h2 hd
      go_enter Try.func53, Try.ntmps53
      go_wp2_with fail
      refine (rank_any x hx HN.out _).mono ?_; rintro e w' ⟨rfl, rfl⟩
      go_wp2_with fail
      refine (at_any _ (by have := H2.out; omega) (by have := H2.out; omega) _).mono ?_; rintro e w' ⟨rfl, rfl⟩
      go_wp2_with fail
      go_ret
      exact ⟨ret_float H.out, rfl⟩
  · have HN := Hd.mk hn
    have H := Hd.mk (stp_1 (d := d) hn)
    clear hn
    go_enter Try.func53, Try.ntmps53
    go_wp2_with fail
    refine (rank_nan x hx HN.out _).mono ?_; rintro e w' ⟨rfl, rfl⟩
    go_wp2_with fail
    go_ret
    exact ⟨ret_float H.out, rfl⟩

set_option maxHeartbeats 800000 in
theorem up_any (x : Nat) (hx : F64 x) (w : World) :
    Calls Try.prog 27 #[.float .f64 x] w fun e w' => e = .returned (.float .f64 (stp x 1)) ∧ w = w' := by
  go_enter Try.func27, Try.ntmps27
  go_wp2_with fail
  refine (step_any x 1 hx (by omega) _).mono ?_; rintro e w' ⟨rfl, rfl⟩
  go_wp2_with fail
  go_ret
  exact ⟨rfl, rfl⟩

end Go.Proofs.Ytjhkjekbadbgnaa
