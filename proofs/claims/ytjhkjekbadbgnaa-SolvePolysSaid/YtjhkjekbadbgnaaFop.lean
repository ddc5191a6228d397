/- Floats: what an operation gives, whatever its operands: the result's bits and how often the tape was asked. -/
import Derived.Test.YtjhkjekbadbgnaaProg
import Derived.WalkKit
import Derived.WalkSpells
import Derived.WalkLawsBesides
import Derived.Deep.Draws
import Derived.Laws.FloatArith
namespace Go.Proofs.Ytjhkjekbadbgnaa
open Go.RowKit

/-- The bits of the result: those that IEEE 754 names, else those of the NaN that the tape gives. -/
def fres (op : BinOp) (x y : Nat) (w : World) : Nat :=
  match floatBits op .f64 x y with
  | some r => r
  | none => (Question.nanBits .f64 x y).cut (w.tape w.drawn (.nanBits .f64 x y))

/-- How often the tape is asked. -/
def fcnt (op : BinOp) (x y : Nat) : Nat :=
  match floatBits op .f64 x y with
  | some _ => 0
  | none => 1

theorem run_fop {P : Program} (op : BinOp) (hop : op = .add ∨ op = .sub ∨ op = .mul ∨ op = .quo) (t : TypeId) (x y : Nat) (w : World) :
    (binOp op t (.float .f64 x) (.float .f64 y)).run P w = .ok (.float .f64 (fres op x y w)) (w.drewN (fcnt op x y)) := by
  rcases hop with rfl | rfl | rfl | rfl <;>
  · unfold fres fcnt
    split
    · rename_i r h
      rw [run_float_arith w _ t .f64 x y r h]
      rfl
    · rename_i h
      simp only [floatBits] at h
      simp only [binOp, Op.floatArith, ne_eq, not_true_eq_false, if_false, pure, bind, Sem.bind, h]
      rfl

@[go_sem] theorem run_fadd {P : Program} (t : TypeId) (x y : Nat) (w : World) :
    (binOp .add t (.float .f64 x) (.float .f64 y)).run P w = .ok (.float .f64 (fres .add x y w)) (w.drewN (fcnt .add x y)) := run_fop .add (by simp) t x y w
@[go_sem] theorem run_fsub {P : Program} (t : TypeId) (x y : Nat) (w : World) :
    (binOp .sub t (.float .f64 x) (.float .f64 y)).run P w = .ok (.float .f64 (fres .sub x y w)) (w.drewN (fcnt .sub x y)) := run_fop .sub (by simp) t x y w
@[go_sem] theorem run_fmul {P : Program} (t : TypeId) (x y : Nat) (w : World) :
    (binOp .mul t (.float .f64 x) (.float .f64 y)).run P w = .ok (.float .f64 (fres .mul x y w)) (w.drewN (fcnt .mul x y)) := run_fop .mul (by simp) t x y w
@[go_sem] theorem run_fquo {P : Program} (t : TypeId) (x y : Nat) (w : World) :
    (binOp .quo t (.float .f64 x) (.float .f64 y)).run P w = .ok (.float .f64 (fres .quo x y w)) (w.drewN (fcnt .quo x y)) := run_fop .quo (by simp) t x y w

end Go.Proofs.Ytjhkjekbadbgnaa
