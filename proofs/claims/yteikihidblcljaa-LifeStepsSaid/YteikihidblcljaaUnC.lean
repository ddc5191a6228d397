/- InterpHeld's walk. -/
import Derived.Test.YteikihidblcljaaM12
import Derived.Test.YteikihidblcljaaM11
namespace Go.Proofs.Yteikihidblcljaa
open Go.RowKit
set_option linter.unusedSimpArgs false
set_option linter.unusedVariables false

/-- The lower and the higher of two floats that are no NaNs. -/
theorem fmin_run (a b : Nat) (ha : F64 a) (hb : F64 b) (na : nn a = false) (nb : nn b = false) :
    ∃ m, (∀ (P : Program) ts t w, (Builtin.min_ ts t #[.float .f64 a, .float .f64 b]).run P w = .ok (.float .f64 m) w) ∧ F64 m ∧ nn m = false ∧ rk m = min (rk a) (rk b) := by
  have ho : FloatKind.f64.format.order a b = some (compare (rk a) (rk b)) := order_eq a b ha hb na nb
  rcases Int.lt_trichotomy (rk a) (rk b) with h | h | h
  · rw [cmp_l h] at ho
    exact ⟨a, fun P ts t w => by simp [Builtin.min_, Builtin.min2, ho], ha, na, by omega⟩
  · rw [cmp_e h] at ho
    by_cases hd : (FloatKind.f64.decode a).neg
    · exact ⟨a, fun P ts t w => by simp [Builtin.min_, Builtin.min2, ho, hd], ha, na, by omega⟩
    · exact ⟨b, fun P ts t w => by simp [Builtin.min_, Builtin.min2, ho, hd], hb, nb, by omega⟩
  · rw [cmp_g h] at ho
    exact ⟨b, fun P ts t w => by simp [Builtin.min_, Builtin.min2, ho], hb, nb, by omega⟩
theorem fmax_run (a b : Nat) (ha : F64 a) (hb : F64 b) (na : nn a = false) (nb : nn b = false) :
    ∃ m, (∀ (P : Program) ts t w, (Builtin.max_ ts t #[.float .f64 a, .float .f64 b]).run P w = .ok (.float .f64 m) w) ∧ F64 m ∧ nn m = false ∧ rk m = max (rk a) (rk b) := by
  have ho : FloatKind.f64.format.order a b = some (compare (rk a) (rk b)) := order_eq a b ha hb na nb
  rcases Int.lt_trichotomy (rk a) (rk b) with h | h | h
  · rw [cmp_l h] at ho
    exact ⟨b, fun P ts t w => by simp [Builtin.max_, Builtin.max2, ho], hb, nb, by omega⟩
  · rw [cmp_e h] at ho
    by_cases hd : (FloatKind.f64.decode a).neg
    · exact ⟨b, fun P ts t w => by simp [Builtin.max_, Builtin.max2, ho, hd], hb, nb, by omega⟩
    · exact ⟨a, fun P ts t w => by simp [Builtin.max_, Builtin.max2, ho, hd], ha, na, by omega⟩
  · rw [cmp_g h] at ho
    exact ⟨a, fun P ts t w => by simp [Builtin.max_, Builtin.max2, ho], ha, na, by omega⟩

theorem leB (x y : Nat) (hx : F64 x) (hy : F64 y) (hn : nn x = false) (hm : nn y = false) (b : Bool) (h : decide (rk x ≤ rk y) = b) : (FloatKind.f64.format.order x y == some .lt || FloatKind.f64.format.order x y == some .eq) = b := (fle x y hx hy hn hm).trans h

theorem fd_at {kind : Int} {X : List Int} {Y : List Nat} {x : Int} : (atT kind X Y x).2 = (fdT kind X Y x).2 := by
  unfold atT fdT
  split
  · split
    · rfl
    · split <;> rfl
  · rfl
theorem fd_zero {kind : Int} {X : List Int} {Y : List Nat} {x : Int} (h : (fdT kind X Y x).2 = 0) : chkT kind X Y = 0 ∧ X.getD 0 0 ≤ x ∧ x ≤ lastT X ∧ fdT kind X Y x = ((fndT X x : Int), 0) := by
  unfold fdT at h ⊢
  split at h
  · rename_i hc
    rw [if_pos hc]
    split at h
    · exact absurd h (by decide)
    · rename_i hx
      rw [if_neg hx]
      exact ⟨hc, by omega, by omega, rfl⟩
  · rename_i hc
    exact absurd h hc

end Go.Proofs.Yteikihidblcljaa
