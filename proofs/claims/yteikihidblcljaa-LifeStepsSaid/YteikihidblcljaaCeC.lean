/- The walk of tenorlaw14's Mixed. -/
import Derived.Test.YteikihidblcljaaCdC
import Derived.StillTailTactics
import Derived.Laws.AppendOwnNone
namespace Go.Proofs.Yteikihidblcljaa
open Go.RowKit
set_option linter.unusedSimpArgs false
set_option linter.unusedVariables false

/-- A slice with a list's flows in another order, in memory of its own. -/
def MxRetF (l : List Fw) (w : World) (e : Ending) (w' : World) : Prop :=
  ∃ a c m, e = .returned (.slice a l.length c) ∧ m.Perm l ∧ Flws w' a m ∧ Below w.heap.size w w'
theorem info_partsF : ∃ i, Try.prog.info? 74 = some i ∧ i.zero = some (.agg #[.int .i64 0, .float .f64 0, .int .i64 0]) ∧ i.size = 3 ∧ i.bytes = 24 := by
  have := info_flow
  cases h : Try.prog.info? 74 with
  | none => simp [h] at this
  | some i => simp [h] at this; exact ⟨i, rfl, this.1, this.2.1, this.2.2⟩

theorem setF3_below {B : Nat} {w0 w : World} {g : Nat} (h : Below B w0 w) (hg : B ≤ g) (k : Nat) (p : Fw) : Below B w0 (setF3 w g k p) := by
  unfold setF3
  exact ((h.setCell (p := ⟨g, k * 3, none⟩) hg _).setCell (p := ⟨g, k * 3 + 1, none⟩) hg _).setCell (p := ⟨g, k * 3 + 2, none⟩) hg _

end Go.Proofs.Yteikihidblcljaa
