/- The walk of tenorlaw1.Bits, with the room of the list that it makes. -/
import Derived.Test.YteikihidblcljaaM4
import Derived.Laws.AppendOwn
namespace Go.Proofs.Yteikihidblcljaa
open Go.RowKit
set_option linter.unusedSimpArgs false
set_option linter.unusedVariables false

theorem us_of_owns_room {w : World} {base : Nat} {v : Value} {l : List Nat} (h : w.ownsRow base 39 1 v l.length (wds l)) (hf : ∀ i, F64 (l.getD i 0)) (hl : l.length ≤ 1000000000) :
    ∃ a c, v = .slice a l.length c ∧ Us w a l ∧ l.length ≤ c ∧ c ≤ 9223372036854775807 := by
  obtain ⟨a, c, rfl, hu⟩ := us_of_owns h hf hl
  refine ⟨a, c, rfl, hu, ?_⟩
  obtain ⟨_, ⟨e, h0⟩ | ⟨g, cap, cur, e, _, _, h1, h2, _⟩⟩ := h
  · simp only [Value.slice.injEq] at e
    obtain ⟨_, e2, e3⟩ := e
    omega
  · simp only [Value.slice.injEq] at e
    obtain ⟨_, e2, e3⟩ := e
    rw [e3]
    exact ⟨h1, Nat.le_trans h2 (by unfold maxLen; decide)⟩

end Go.Proofs.Yteikihidblcljaa
