/- The walk of tenorlaw12.awake. -/
import Derived.Test.YtjhkjekbadbgnaaPo
import Derived.Test.YtjhkjekbadbgnaaIs
namespace Go.Proofs.Ytjhkjekbadbgnaa
open Go.RowKit

theorem aw1 : root (gP [13839561654909534208, 0, 4607182418800017408]) 0 4611686018427387904 = (4611686018427387904, 2, 0) := by decide +kernel
theorem aw2 : root (gP [0, 4607182418800017408]) 13830554455654793216 4607182418800017408 = (0, 3, 0) := by decide +kernel
theorem aw3 : root (gP [4607182418800017408]) 0 4607182418800017408 = (0, 2, 120) := by decide +kernel

theorem fls_three (w : World) (x y z : Nat) (t : TypeId) (hx : F64 x) (hy : F64 y) (hz : F64 z) : Fls (w.alloc (.cells #[.float .f64 x, .float .f64 y, .float .f64 z] t)) (some ⟨w.heap.size, 0, none⟩) [x, y, z] where
  nil := fun h => by cases h
  cell := fun b o v h i hi => by
    cases h
    refine ⟨rfl, ?_⟩
    match i, hi with
    | 0, _ => go_simp
    | 1, _ => go_simp
    | 2, _ => go_simp
  wf := fun i => by
    match i with
    | 0 => exact hx
    | 1 => exact hy
    | 2 => exact hz
    | i + 3 => exact F64_0
  len := by simp
theorem fls_two (w : World) (x y : Nat) (t : TypeId) (hx : F64 x) (hy : F64 y) : Fls (w.alloc (.cells #[.float .f64 x, .float .f64 y] t)) (some ⟨w.heap.size, 0, none⟩) [x, y] where
  nil := fun h => by cases h
  cell := fun b o v h i hi => by
    cases h
    refine ⟨rfl, ?_⟩
    match i, hi with
    | 0, _ => go_simp
    | 1, _ => go_simp
  wf := fun i => by
    match i with
    | 0 => exact hx
    | 1 => exact hy
    | i + 2 => exact F64_0
  len := by simp
theorem fls_one (w : World) (x : Nat) (t : TypeId) (hx : F64 x) : Fls (w.alloc (.cells #[.float .f64 x] t)) (some ⟨w.heap.size, 0, none⟩) [x] where
  nil := fun h => by cases h
  cell := fun b o v h i hi => by
    cases h
    refine ⟨rfl, ?_⟩
    match i, hi with
    | 0, _ => go_simp
  wf := fun i => by
    match i with
    | 0 => exact hx
    | i + 1 => exact F64_0
  len := by simp

set_option maxHeartbeats 1600000 in
theorem awake_any (w : World) :
    Calls Try.prog 14 #[] w fun e w' => e = .returned (.bool true) ∧ Below w.heap.size w w' := by
  go_enter Try.func14, Try.ntmps14
  go_wp2_with fail
  refine (poly_any _ [13839561654909534208, 0, 4607182418800017408] _ _ _ ⟨by decide⟩ ⟨by decide⟩ _ (fls_three _ _ _ _ _ ⟨by decide⟩ ⟨by decide⟩ ⟨by decide⟩)).mono ?_
  rintro e w1 ⟨rfl, hb1⟩
  rw [aw1]
  have B1 : Below w.heap.size w w1 := ((Below.refl _ _).alloc (Nat.le_refl _) _).trans (hb1.mono (by simp))
  clear hb1
  go_wp2_with fail
  refine (poly_any _ [0, 4607182418800017408] _ _ _ ⟨by decide⟩ ⟨by decide⟩ _ (fls_two _ _ _ _ ⟨by decide⟩ ⟨by decide⟩)).mono ?_
  rintro e w2 ⟨rfl, hb1⟩
  rw [aw2]
  have B2 : Below w.heap.size w w2 := (B1.alloc B1.size _).trans (hb1.mono (by have := B1.size; simp; omega))
  clear hb1 B1
  go_wp2_with fail
  refine (poly_any _ [4607182418800017408] _ _ _ ⟨by decide⟩ ⟨by decide⟩ _ (fls_one _ _ _ ⟨by decide⟩)).mono ?_
  rintro e w3 ⟨rfl, hb1⟩
  rw [aw3]
  have B3 : Below w.heap.size w w3 := (B2.alloc B2.size _).trans (hb1.mono (by have := B2.size; simp; omega))
  clear hb1 B2
  have o1 : (FloatKind.f64.format.order 4611686018427387904 4611686018427387904 == some .eq) = true := by decide +kernel
  have o2 : (FloatKind.f64.format.order 0 0 == some .eq) = true := by decide +kernel
  go_wp2_with fail
  go_ret
  exact ⟨rfl, B3⟩

end Go.Proofs.Ytjhkjekbadbgnaa
