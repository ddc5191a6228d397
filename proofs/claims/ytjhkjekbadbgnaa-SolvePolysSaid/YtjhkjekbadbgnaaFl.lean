/- Plain: floats of which all NaNs are one; an operation does not hang on which NaN it is handed. No program. -/
import Derived.Test.YtjhkjekbadbgnaaPl
import Derived.Laws.FloatArith
namespace Go.Proofs.Ytjhkjekbadbgnaa

abbrev dbl : Ieee.Format := Ieee.double
def NaNc : Nat := 9221120237041090561
/-- All NaNs are one. -/
def cn (x : Nat) : Nat := if nn x then NaNc else x
def fadd (x y : Nat) : Nat := (dbl.add x y).getD NaNc
def fsub (x y : Nat) : Nat := (dbl.sub x y).getD NaNc
def fmul (x y : Nat) : Nat := (dbl.mul x y).getD NaNc
def fdiv (x y : Nat) : Nat := (dbl.div x y).getD NaNc

theorem dbl_sw : dbl.signWeight = 9223372036854775808 := by decide
theorem dbl_inf : dbl.infRung = 9218868437227405312 := by decide
theorem dbl_bin : dbl.binade = 4503599627370496 := by decide
theorem dbl_lp : dbl.leastPlace = -1074 := by decide

theorem ng_of (x : Nat) (h : F64 x) : (x / 9223372036854775808 % 2 == 1) = ng x := by
  have h := h.out; unfold ng
  rw [Bool.eq_iff_iff]; simp; omega

/-- What a word stands for. -/
theorem read_eq (x : Nat) (h : F64 x) : dbl.read x =
    if mg x < 4503599627370496 then .number (ng x) (mg x) (-1074)
    else if mg x < INF then .number (ng x) (4503599627370496 + mg x % 4503599627370496) (-1074 + (mg x / 4503599627370496 - 1 : Nat))
    else if mg x = INF then .infinity (ng x) else .nan (ng x) (mg x - INF) := by
  unfold Ieee.Format.read
  simp only [dbl_sw, dbl_inf, dbl_bin, dbl_lp, ng_of x h]
  unfold mg INF
  rfl

theorem read_nan (x : Nat) (h : F64 x) (hn : nn x = true) : ∃ s t, dbl.read x = .nan s t := by
  rw [read_eq x h]
  unfold nn INF at hn; simp at hn
  unfold INF
  exact ⟨_, _, by rw [if_neg (by omega), if_neg (by omega), if_neg (by omega)]⟩

theorem F64_NaNc : F64 NaNc := ⟨by decide⟩
theorem nn_NaNc : nn NaNc = true := by unfold nn mg INF NaNc; decide
theorem F64_cn (x : Nat) (h : F64 x) : F64 (cn x) := by
  unfold cn; split
  · exact F64_NaNc
  · exact h
theorem nn_cn (x : Nat) : nn (cn x) = nn x := by
  unfold cn; split
  · rename_i h; rw [h]; exact nn_NaNc
  · rfl
theorem cn_of (x : Nat) (h : nn x = false) : cn x = x := by unfold cn; rw [h]; rfl
theorem cn_nan (x : Nat) (h : nn x = true) : cn x = NaNc := by unfold cn; rw [h]; rfl
theorem cn_cn (x : Nat) : cn (cn x) = cn x := by
  by_cases h : nn x = true
  · rw [cn_nan x h, cn_nan _ nn_NaNc]
  · have h : nn x = false := by simpa using h
    rw [cn_of x h, cn_of x h]

/-- What is written of a number is no NaN. -/
theorem nearest_nn (s : Bool) (m : Nat) (e : Int) : nn (dbl.nearest s m e) = false := by
  have key : ∀ r, r ≤ 9218868437227405312 → nn (dbl.word s r) = false := by
    intro r hr
    unfold nn mg INF Ieee.Format.word
    rw [dbl_sw]; simp only [decide_eq_false_iff_not]; split <;> omega
  unfold Ieee.Format.nearest
  dsimp only
  split
  · exact key 0 (by decide)
  · rw [dbl_inf]; exact key _ (Nat.min_le_right _ _)

theorem inf_nn (s : Bool) : nn (dbl.write (.infinity s)) = false := by
  unfold nn mg INF; cases s <;> decide

theorem nn_sum (a b d : Ieee.Datum) (h : a.sum b = some d) : nn (dbl.write d) = false := by
  unfold Ieee.Datum.sum at h
  split at h <;> first | (cases h; done) | skip
  · split at h <;> simp at h; subst h; exact inf_nn _
  · simp at h; subst h; exact inf_nn _
  · simp at h; subst h; exact inf_nn _
  · simp at h; subst h; exact nearest_nn _ _ _
theorem nn_product (a b d : Ieee.Datum) (h : a.product b = some d) : nn (dbl.write d) = false := by
  unfold Ieee.Datum.product at h
  split at h <;> first | (cases h; done) | skip
  · simp at h; subst h; exact inf_nn _
  · split at h <;> simp at h; subst h; exact inf_nn _
  · split at h <;> simp at h; subst h; exact inf_nn _
  · simp at h; subst h; exact nearest_nn _ _ _
theorem nn_quotient (k : Nat) (a b d : Ieee.Datum) (h : a.quotient k b = some d) : nn (dbl.write d) = false := by
  unfold Ieee.Datum.quotient at h
  split at h <;> first | (cases h; done) | skip
  · simp at h; subst h; exact inf_nn _
  · simp at h; subst h; exact nearest_nn _ _ _
  · split at h
    · split at h <;> simp at h; subst h; exact inf_nn _
    · simp at h; subst h; exact nearest_nn _ _ _

theorem nn_add {x y r : Nat} (h : dbl.add x y = some r) : nn r = false := by
  unfold Ieee.Format.add at h
  obtain ⟨d, hd, rfl⟩ := Option.map_eq_some_iff.1 h
  exact nn_sum _ _ _ hd
theorem nn_sub {x y r : Nat} (h : dbl.sub x y = some r) : nn r = false := by
  unfold Ieee.Format.sub at h
  obtain ⟨d, hd, rfl⟩ := Option.map_eq_some_iff.1 h
  exact nn_sum _ _ _ hd
theorem nn_mul {x y r : Nat} (h : dbl.mul x y = some r) : nn r = false := by
  unfold Ieee.Format.mul at h
  obtain ⟨d, hd, rfl⟩ := Option.map_eq_some_iff.1 h
  exact nn_product _ _ _ hd
theorem nn_div {x y r : Nat} (h : dbl.div x y = some r) : nn r = false := by
  unfold Ieee.Format.div at h
  obtain ⟨d, hd, rfl⟩ := Option.map_eq_some_iff.1 h
  exact nn_quotient _ _ _ _ hd

/-- Of a NaN only that it is one is asked. -/
theorem read_cn (x : Nat) (h : F64 x) : dbl.read (cn x) = dbl.read x ∨ (∃ s t s' t', dbl.read (cn x) = .nan s t ∧ dbl.read x = .nan s' t') := by
  by_cases hn : nn x = true
  · right
    obtain ⟨s, t, h1⟩ := read_nan (cn x) (F64_cn x h) (by rw [nn_cn]; exact hn)
    obtain ⟨s', t', h2⟩ := read_nan x h hn
    exact ⟨s, t, s', t', h1, h2⟩
  · left; rw [cn_of x (by simpa using hn)]

theorem sum_nan_l (s : Bool) (t : Nat) (d : Ieee.Datum) : (Ieee.Datum.nan s t).sum d = none := by cases d <;> rfl
theorem sum_nan_r (s : Bool) (t : Nat) (d : Ieee.Datum) : d.sum (.nan s t) = none := by cases d <;> rfl
theorem product_nan_l (s : Bool) (t : Nat) (d : Ieee.Datum) : (Ieee.Datum.nan s t).product d = none := by cases d <;> rfl
theorem product_nan_r (s : Bool) (t : Nat) (d : Ieee.Datum) : d.product (.nan s t) = none := by cases d <;> rfl
theorem quotient_nan_l (k : Nat) (s : Bool) (t : Nat) (d : Ieee.Datum) : (Ieee.Datum.nan s t).quotient k d = none := by cases d <;> rfl
theorem quotient_nan_r (k : Nat) (s : Bool) (t : Nat) (d : Ieee.Datum) : d.quotient k (.nan s t) = none := by cases d <;> rfl

theorem add_cn (x y : Nat) (hx : F64 x) (hy : F64 y) : dbl.add (cn x) (cn y) = dbl.add x y := by
  unfold Ieee.Format.add
  rcases read_cn x hx with h | ⟨_, _, _, _, h1, h2⟩
  · rw [h]
    rcases read_cn y hy with h' | ⟨_, _, _, _, h1', h2'⟩
    · rw [h']
    · rw [h1', h2', sum_nan_r, sum_nan_r]
  · rw [h1, h2, sum_nan_l, sum_nan_l]
theorem sub_cn (x y : Nat) (hx : F64 x) (hy : F64 y) : dbl.sub (cn x) (cn y) = dbl.sub x y := by
  unfold Ieee.Format.sub
  rcases read_cn x hx with h | ⟨_, _, _, _, h1, h2⟩
  · rw [h]
    rcases read_cn y hy with h' | ⟨_, _, _, _, h1', h2'⟩
    · rw [h']
    · rw [h1', h2']; simp only [Ieee.Datum.opposite]; rw [sum_nan_r, sum_nan_r]
  · rw [h1, h2, sum_nan_l, sum_nan_l]
theorem mul_cn (x y : Nat) (hx : F64 x) (hy : F64 y) : dbl.mul (cn x) (cn y) = dbl.mul x y := by
  unfold Ieee.Format.mul
  rcases read_cn x hx with h | ⟨_, _, _, _, h1, h2⟩
  · rw [h]
    rcases read_cn y hy with h' | ⟨_, _, _, _, h1', h2'⟩
    · rw [h']
    · rw [h1', h2', product_nan_r, product_nan_r]
  · rw [h1, h2, product_nan_l, product_nan_l]
theorem div_cn (x y : Nat) (hx : F64 x) (hy : F64 y) : dbl.div (cn x) (cn y) = dbl.div x y := by
  unfold Ieee.Format.div
  rcases read_cn x hx with h | ⟨_, _, _, _, h1, h2⟩
  · rw [h]
    rcases read_cn y hy with h' | ⟨_, _, _, _, h1', h2'⟩
    · rw [h']
    · rw [h1', h2', quotient_nan_r, quotient_nan_r]
  · rw [h1, h2, quotient_nan_l, quotient_nan_l]

theorem F64_of_lt {r : Nat} (h : r < 2 ^ dbl.width) : F64 r := ⟨h⟩
theorem F64_fadd (x y : Nat) : F64 (fadd x y) := by
  unfold fadd; cases h : dbl.add x y with
  | none => exact F64_NaNc
  | some r => exact F64_of_lt (dbl.add_lt h)
theorem F64_fsub (x y : Nat) : F64 (fsub x y) := by
  unfold fsub; cases h : dbl.sub x y with
  | none => exact F64_NaNc
  | some r => exact F64_of_lt (dbl.sub_lt h)
theorem F64_fmul (x y : Nat) : F64 (fmul x y) := by
  unfold fmul; cases h : dbl.mul x y with
  | none => exact F64_NaNc
  | some r => exact F64_of_lt (dbl.mul_lt h)
theorem F64_fdiv (x y : Nat) : F64 (fdiv x y) := by
  unfold fdiv; cases h : dbl.div x y with
  | none => exact F64_NaNc
  | some r => exact F64_of_lt (dbl.div_lt h)

end Go.Proofs.Ytjhkjekbadbgnaa
