/- What a floating-point operation of the program gives, all NaNs taken for one. -/
import Derived.Test.YtjhkjekbadbgnaaFop
import Derived.Test.YtjhkjekbadbgnaaFl
namespace Go.Proofs.Ytjhkjekbadbgnaa
open Go.RowKit

theorem cut_nan (x y t : Nat) : F64 ((Question.nanBits .f64 x y).cut t) ∧ nn ((Question.nanBits .f64 x y).cut t) = true := by
  have e : (Question.nanBits .f64 x y).cut t = (t % 2) * 2 ^ 63 + 0x7ff0000000000000 + 1 + (t / 2) % (2 ^ 52 - 1) := rfl
  rw [e]
  refine ⟨⟨by omega⟩, ?_⟩
  unfold nn mg INF
  have hq : t / 2 % (2 ^ 52 - 1) < 2 ^ 52 - 1 := Nat.mod_lt _ (by decide)
  generalize t / 2 % (2 ^ 52 - 1) = q at *
  rw [decide_eq_true_eq]
  rcases Nat.mod_two_eq_zero_or_one t with h | h <;> rw [h] <;> omega

theorem fres_some {op : BinOp} {x y r : Nat} (w : World) (h : floatBits op .f64 x y = some r) : fres op x y w = r := by unfold fres; rw [h]
theorem fres_none {op : BinOp} {x y : Nat} (w : World) (h : floatBits op .f64 x y = none) : F64 (fres op x y w) ∧ nn (fres op x y w) = true := by
  unfold fres; rw [h]; exact cut_nan x y _

theorem F64_fres (op : BinOp) (x y : Nat) (w : World) : F64 (fres op x y w) := by
  cases h : floatBits op .f64 x y with
  | none => exact (fres_none w h).1
  | some r => rw [fres_some w h]; have := floatBits_wf h; exact ⟨by simpa [Lit.wf] using this⟩

theorem cn_fadd (x y : Nat) (w : World) (hx : F64 x) (hy : F64 y) : cn (fres .add x y w) = fadd (cn x) (cn y) := by
  unfold fadd; rw [add_cn x y hx hy]
  cases h : dbl.add x y with
  | none => exact cn_nan _ (fres_none (op := .add) w h).2
  | some r => rw [fres_some (op := .add) w h, cn_of _ (nn_add h)]; rfl
theorem cn_fsub (x y : Nat) (w : World) (hx : F64 x) (hy : F64 y) : cn (fres .sub x y w) = fsub (cn x) (cn y) := by
  unfold fsub; rw [sub_cn x y hx hy]
  cases h : dbl.sub x y with
  | none => exact cn_nan _ (fres_none (op := .sub) w h).2
  | some r => rw [fres_some (op := .sub) w h, cn_of _ (nn_sub h)]; rfl
theorem cn_fmul (x y : Nat) (w : World) (hx : F64 x) (hy : F64 y) : cn (fres .mul x y w) = fmul (cn x) (cn y) := by
  unfold fmul; rw [mul_cn x y hx hy]
  cases h : dbl.mul x y with
  | none => exact cn_nan _ (fres_none (op := .mul) w h).2
  | some r => rw [fres_some (op := .mul) w h, cn_of _ (nn_mul h)]; rfl
theorem cn_fdiv (x y : Nat) (w : World) (hx : F64 x) (hy : F64 y) : cn (fres .quo x y w) = fdiv (cn x) (cn y) := by
  unfold fdiv; rw [div_cn x y hx hy]
  cases h : dbl.div x y with
  | none => exact cn_nan _ (fres_none (op := .quo) w h).2
  | some r => rw [fres_some (op := .quo) w h, cn_of _ (nn_div h)]; rfl

/-- It returns a float that is v, all NaNs taken for one; what memory held is as it was. -/
def FRet (v : Nat) (w : World) (e : Ending) (w' : World) : Prop := ∃ r n, e = .returned (.float .f64 r) ∧ F64 r ∧ cn r = v ∧ w' = w.drewN n

end Go.Proofs.Ytjhkjekbadbgnaa
