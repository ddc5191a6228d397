/- RateFalls' walk. -/
import Derived.Test.YtpegicgahbambaaGpC
import Derived.Test.YtpegicgahbambaaM8
namespace Go.Proofs.Ytpegicgahbambaa
open Go.RowKit
set_option linter.unusedSimpArgs false
set_option linter.unusedVariables false

theorem okT_ord (x : Nat) (hx : F64 x) (hn : nn x = false) : okT x = (decide (0 ≤ rk x) && decide (rk x ≤ rk longW)) := by
  unfold okT
  cases h1 : decide (0 ≤ rk x)
  · simp
  cases h2 : decide (rk x ≤ rk longW)
  · simp
  rw [fin_mid x 0 longW (by rw [z0_facts.2.2]; simpa using h1) (by simpa using h2) (by decide +kernel) (by decide +kernel)]; rfl

theorem ge_or (a b : Int) : (decide (b < a) || decide (a = b)) = decide (b ≤ a) := by
  rw [← Bool.decide_or]; exact decide_eq_decide.2 (by omega)
theorem le_or (a b : Int) : (decide (a < b) || decide (a = b)) = decide (a ≤ b) := by
  rw [← Bool.decide_or]; exact decide_eq_decide.2 (by omega)

set_option maxHeartbeats 800000 in
theorem fits_any (x : Nat) (hx : F64 x) (w : World) :
    Calls Try.prog 20 #[.float .f64 x] w fun e w' => e = .returned (.bool (okT x)) ∧ w = w' := by
  have c1 := flt x 0 hx z0_facts.1
  have c2 := feq x 0 hx z0_facts.1
  have c3 := fgt x 0 hx z0_facts.1
  have d1 := flt x longW hx long_facts.1
  have d2 := feq x longW hx long_facts.1
  have d3 := fgt x longW hx long_facts.1
  rw [z0_facts.2.1, z0_facts.2.2] at c1 c2 c3
  rw [long_facts.2.1] at d1 d2 d3
  have E1 : Hd (((!nn x && decide (0 < rk x) || !nn x && decide (rk x = 0)) && (!nn x && decide (rk x < rk longW) || !nn x && decide (rk x = rk longW))) = okT x) := ⟨by
    cases hn : nn x
    · rw [okT_ord x hx hn]
      rw [Bool.not_false, Bool.true_and, Bool.true_and, Bool.true_and, Bool.true_and, ge_or, le_or]
    · unfold okT
      cases hf : fin x
      · rfl
      · rw [nn_fin x hf] at hn; cases hn⟩
  have E2 : Hd (¬(nn x = false ∧ 0 < rk x ∨ nn x = false ∧ rk x = 0) → okT x = false) := ⟨fun h => by
    rw [← E1.out]
    cases hn : nn x
    · have h1 : ¬ 0 < rk x := fun g => h (Or.inl ⟨hn, g⟩)
      have h2 : ¬ rk x = 0 := fun g => h (Or.inr ⟨hn, g⟩)
      rw [decide_eq_false h1, decide_eq_false h2]; rfl
    · rfl⟩
  generalize okT x = b at *
  go_enter Try.func20, Try.ntmps20
  go_wp2_with fail
  · go_ret
    exact ⟨ret_bool E1.out, rfl⟩
  · rename_i h
    obtain rfl := E2.out h
    go_ret
    exact ⟨rfl, rfl⟩

/-- Two answers' codes and numbers: not both codes 0, or the first is not below the second. -/
def codeOk (c1 c2 : Int) (x y : Nat) : Prop := c1 = 0 → c2 = 0 → (FloatKind.f64.format.order x y == some .lt) = false

theorem ans_ord {A B : Nat × Int} {x y : Nat} (hx : F64 x) (hy : F64 y) (cx : cn x = A.1) (cy : cn y = B.1) (fa : A.2 = 0 → fin A.1 = true) (fb : B.2 = 0 → fin B.1 = true) (h : A.2 = 0 → B.2 = 0 → rk B.1 ≤ rk A.1) : codeOk A.2 B.2 x y := by
  intro c1 c2
  have ex : x = A.1 := by
    have f := fa c1
    rw [← cx, fin_cn] at f
    rw [← cx, cn_of x (nn_fin x f)]
  have ey : y = B.1 := by
    have f := fb c2
    rw [← cy, fin_cn] at f
    rw [← cy, cn_of y (nn_fin y f)]
  have := h c1 c2
  rw [flt x y hx hy, decide_eq_false (by rw [ex, ey]; omega), Bool.and_false]

/-- An answer: a float, hidden, and its code. -/
def AEx (A : Nat × Int) (w : World) (e : Ending) (w' : World) : Prop := ∃ x, e = .returned (.tuple #[.float .f64 x, .int .i64 A.2]) ∧ F64 x ∧ Hd (cn x = A.1) ∧ Hd (Below w.heap.size w w')
theorem aex_fac (k : Int) (r t : Nat) (hr : F64 r) (ht : F64 t) (w : World) : Calls Try.prog 13 #[.int .i64 k, .float .f64 r, .float .f64 t] w (AEx (facA k r t) w) := (factor_any k r t hr ht w).mono fun _ _ ⟨x, a, b, c, d⟩ => ⟨x, a, b, ⟨c⟩, ⟨d⟩⟩
theorem aex_fwd (n f t : Nat) (hn : F64 n) (hf : F64 f) (ht : F64 t) (w : World) : Calls Try.prog 21 #[.float .f64 n, .float .f64 f, .float .f64 t] w (AEx (fwdA n f t) w) := (forward_any n f t hn hf ht w).mono fun _ _ ⟨x, a, b, c, d⟩ => ⟨x, a, b, ⟨c⟩, ⟨d⟩⟩
def AEc (v : Nat) (c : Int) (w : World) (e : Ending) (w' : World) : Prop := ∃ x, e = .returned (.tuple #[.float .f64 x, .int .i64 c]) ∧ F64 x ∧ Hd (cn x = v) ∧ Hd (Below w.heap.size w w')
theorem aec_fac (k : Int) (r t v : Nat) (c : Int) (hr : F64 r) (ht : F64 t) (h : facA k r t = (v, c)) (w : World) : Calls Try.prog 13 #[.int .i64 k, .float .f64 r, .float .f64 t] w (AEc v c w) := (factor_any k r t hr ht w).mono fun _ _ ⟨x, a, b, c, d⟩ => ⟨x, by rw [h] at a; exact a, b, ⟨by rw [h] at c; exact c⟩, ⟨d⟩⟩
theorem aec_yld (k : Int) (r t v : Nat) (c : Int) (hr : F64 r) (ht : F64 t) (h : yldA k r t = (v, c)) (w : World) : Calls Try.prog 18 #[.int .i64 k, .float .f64 r, .float .f64 t] w (AEc v c w) := (yield_any k r t hr ht w).mono fun _ _ ⟨x, a, b, c, d⟩ => ⟨x, by rw [h] at a; exact a, b, ⟨by rw [h] at c; exact c⟩, ⟨d⟩⟩

end Go.Proofs.Ytpegicgahbambaa
