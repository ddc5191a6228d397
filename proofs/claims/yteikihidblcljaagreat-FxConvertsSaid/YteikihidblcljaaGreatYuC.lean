/- The walk of tenorlaw23's FxCrosses. -/
import Derived.Test.YteikihidblcljaaGreatYrC
import Derived.Test.YteikihidblcljaaGreatM18
import Derived.Test.YteikihidblcljaaGreatM1
namespace Go.Proofs.YteikihidblcljaaGreat
open Go.RowKit
set_option linter.unusedSimpArgs false
set_option linter.unusedVariables false

theorem newA_good {l : List Pr} (hw : ∀ i, F64 (l.getD i pr0).x) (h : (newA l).1 = 0) : Good l := by
  unfold newA at h
  split at h
  · simp at h
  · have := newT_good l hw l.length (Nat.le_refl _) h
    rwa [List.take_of_length_le (Nat.le_refl _)] at this

end Go.Proofs.YteikihidblcljaaGreat
