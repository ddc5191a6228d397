/- The walks of tenorlaw1.Is and of what it calls. -/
import Derived.Test.YtjhkjekbadbgnaaIe
import Derived.Test.YtjhkjekbadbgnaaFl
import Derived.BigQuiet
namespace Go.Proofs.Ytjhkjekbadbgnaa
open Go.RowKit

/-- Two floats are the same. -/
def same (x y : Nat) : Bool := x == y || (nn x && nn y)
theorem same_of_cn {x y : Nat} (h : cn x = cn y) : same x y = true := by
  unfold same
  by_cases h1 : nn x = true
  · have h2 : nn y = true := by rw [← nn_cn, ← h, nn_cn]; exact h1
    simp [h1, h2]
  · have h1 : nn x = false := by simpa using h1
    have h2 : nn y = false := by rw [← nn_cn, ← h, nn_cn]; exact h1
    rw [cn_of x h1, cn_of y h2] at h
    simp [h]
theorem cn_of_same {x y : Nat} (h : same x y = true) : cn x = cn y := by
  unfold same at h
  simp at h
  rcases h with h | ⟨h1, h2⟩
  · rw [h]
  · rw [cn_nan x h1, cn_nan y h2]
theorem nn_int (x : Nat) : decide ((9218868437227405312 : Int) < mg x) = nn x := by
  unfold nn INF; rw [Bool.eq_iff_iff]; simp; omega

set_option maxHeartbeats 800000 in
theorem rIsNaN_any (u : Nat) (hu : F64 u) (w : World) :
    Calls Try.prog 49 #[.int .u64 u] w fun e w' => e = .returned (.bool (nn u)) ∧ w = w' := by
  have h1 := bits_mg u hu
  have H := Hd.mk (nn_int u)
  go_enter Try.func49, Try.ntmps49
  go_wp2
  go_ret
  exact ⟨ret_bool H.out, rfl⟩

set_option maxHeartbeats 800000 in
theorem rSame_any (u v : Nat) (hu : F64 u) (hv : F64 v) (w : World) :
    Calls Try.prog 39 #[.int .u64 u, .int .u64 v] w fun e w' => e = .returned (.bool (same u v)) ∧ w = w' := by
  by_cases h : u = v
  · have H : Hd (true = same u v) := ⟨by unfold same; simp [h]⟩
    have h1 : ((u : Int) == v) = true := by rw [beq_iff_eq]; omega
    clear h
    go_enter Try.func39, Try.ntmps39
    go_wp2
    go_ret
    exact ⟨ret_bool H.out, rfl⟩
  · have h1 : ((u : Int) == v) = false := by rw [beq_eq_false_iff_ne]; omega
    have hh : (u == v) = false := by rw [beq_eq_false_iff_ne]; exact h
    cases hn : nn u
    · have H : Hd (false = same u v) := ⟨by unfold same; rw [hh, hn]; rfl⟩
      clear h hh
      go_enter Try.func39, Try.ntmps39
      go_wp2_with (go_at_call 49; refine (rIsNaN_any _ hu _).mono ?_; rintro e w' ⟨rfl, rfl⟩)
      go_ret
      exact ⟨ret_bool H.out, rfl⟩
    · have H : Hd (nn v = same u v) := ⟨by unfold same; rw [hh, hn]; rfl⟩
      clear h hh
      go_enter Try.func39, Try.ntmps39
      go_wp2_with fail
      refine (rIsNaN_any _ hu _).mono ?_; rintro e w' ⟨rfl, rfl⟩
      go_wp2_with fail
      refine (rIsNaN_any _ hv _).mono ?_; rintro e w' ⟨rfl, rfl⟩
      go_wp2_with fail
      go_ret
      exact ⟨ret_bool H.out, rfl⟩

set_option maxHeartbeats 800000 in
theorem is_any (x u : Nat) (hx : F64 x) (hu : F64 u) (w : World) :
    Calls Try.prog 19 #[.float .f64 x, .int .u64 u] w fun e w' => e = .returned (.bool (same x u)) ∧ w = w' := by
  go_enter Try.func19, Try.ntmps19
  go_wp2_with fail
  refine (apiBits_any _ _).mono ?_; rintro e w' ⟨rfl, rfl⟩
  go_wp2_with fail
  refine (rSame_any _ _ hx hu _).mono ?_; rintro e w' ⟨rfl, rfl⟩
  go_wp2_with fail
  go_ret
  exact ⟨rfl, rfl⟩

end Go.Proofs.Ytjhkjekbadbgnaa
