/- InterpNodes' walk. -/
import Derived.Test.YteikihidblcljaaUnC
namespace Go.Proofs.Yteikihidblcljaa
open Go.RowKit
set_option linter.unusedSimpArgs false
set_option linter.unusedVariables false

theorem at_nodeT {kind : Int} {X : List Int} {Y : List Nat} (hc : chkT kind X Y = 0) (ok : TOk X Y X.length) {i : Nat} (hi : i < X.length) : atT kind X Y (X.getD i 0) = (Y.getD i 0, 0) ∧ fdT kind X Y (X.getD i 0) = ((i : Int), 0) := by
  have hf : fndT X (X.getD i 0) = i := fnd_is ok hi (Int.le_refl _) (fun h => ok.up i h)
  have h0 := (up_le ok.up (show 0 ≤ i by omega) hi).1
  have h1 := (up_le ok.up (show i ≤ X.length - 1 by omega) (by omega)).1
  have hn : ¬ (X.getD i 0 < X.getD 0 0 ∨ lastT X < X.getD i 0) := by unfold lastT; omega
  constructor
  · unfold atT; rw [if_pos hc, if_neg hn, hf, if_pos rfl]
  · rw [fd_ok hc hn, hf]
theorem at_outT {kind : Int} {X : List Int} {Y : List Nat} (hc : chkT kind X Y = 0) {x : Int} (hx : x < X.getD 0 0 ∨ lastT X < x) : atT kind X Y x = (0, 51) := by
  unfold atT; rw [if_pos hc, if_pos hx]

end Go.Proofs.Yteikihidblcljaa
