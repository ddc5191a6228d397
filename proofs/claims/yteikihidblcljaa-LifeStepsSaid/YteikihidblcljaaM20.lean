/- Put together out of several texts: Yy Yz. -/
import Derived.Test.YteikihidblcljaaM16
import Derived.Test.YteikihidblcljaaM19
import Derived.Test.YteikihidblcljaaM11
import Derived.StillTailTactics
import Derived.Laws.AppendOwnNone

/- A list of pairs of the call's own; the walk of tenorlaw23's mixed. -/
namespace Go.Proofs.Yteikihidblcljaa
open Go.RowKit
set_option linter.unusedSimpArgs false
set_option linter.unusedVariables false

/-- One pair of the list written. -/
def set3 (w : World) (g k : Nat) (p : Pr) : World := ((w.setCell ⟨g, k * 3, none⟩ (.int .i64 p.a)).setCell ⟨g, k * 3 + 1, none⟩ (.int .i64 p.b)).setCell ⟨g, k * 3 + 2, none⟩ (.float .f64 p.x)
theorem getD_setP (m : List Pr) (i : Nat) (y : Pr) (j : Nat) (hi : i < m.length) : (m.set i y).getD j pr0 = if j = i then y else m.getD j pr0 := by
  simp only [List.getD_eq_getElem?_getD, List.getElem?_set]
  by_cases h : i = j
  · subst h; simp [hi]
  · have : ¬ j = i := fun e => h e.symm
    simp [h, this]
structure PrOk (p : Pr) : Prop where
  wf : F64 p.x
  ra : -9223372036854775808 ≤ p.a ∧ p.a ≤ 9223372036854775807
  rb : -9223372036854775808 ≤ p.b ∧ p.b ≤ 9223372036854775807
theorem swapP_perm (m : List Pr) (i j : Nat) (hi : i < m.length) (hj : j < m.length) : ((m.set i (m.getD j pr0)).set j (m.getD i pr0)).Perm m := by
  have := List.set_set_perm hi hj
  simpa [List.getD_eq_getElem?_getD, List.getElem?_eq_getElem hi, List.getElem?_eq_getElem hj] using this
theorem prV_len (L : List Pr) : (prV L).length = L.length * 3 := by
  unfold prV
  induction L with
  | nil => rfl
  | cons p L ih => rw [List.flatMap_cons, List.length_append, ih]; simp; omega
theorem prV_one (L : List Pr) : ∀ u ∈ prV L, u.oneCell' = true := by
  intro u hu
  unfold prV at hu
  obtain ⟨p, _, hp⟩ := List.mem_flatMap.1 hu
  simp at hp
  rcases hp with rfl | rfl | rfl <;> rfl
theorem Prs.news {w : World} {b o : Nat} {L : List Pr} (h : Prs w (some ⟨b, o, none⟩) L) (j : Nat) (u : Value) (hu : (prV L)[j]? = some u) : w.cell? ((⟨b, o, none⟩ : Addr).add j) = some u := by
  have hj : j < L.length * 3 := by rw [← prV_len]; exact (List.getElem?_eq_some_iff.1 hu).1
  rw [show (⟨b, o, none⟩ : Addr).add j = ⟨b, o + j, none⟩ by by_cases h0 : j = 0 <;> simp [Addr.add, h0]]
  obtain ⟨b', o', e, c1, c2, c3⟩ := h.cell (j / 3) (by omega)
  cases e
  obtain ⟨d1, d2, d3⟩ := prV_get L (j / 3) (by omega)
  have h3 : j = j / 3 * 3 ∨ j = j / 3 * 3 + 1 ∨ j = j / 3 * 3 + 2 := by omega
  generalize j / 3 = q at *
  rcases h3 with rfl | rfl | rfl
  · rw [d1] at hu; cases hu; exact c1
  · rw [d2] at hu; cases hu; exact c2
  · rw [d3] at hu; cases hu; exact c3

end Go.Proofs.Yteikihidblcljaa

/- The walk of tenorlaw23's mixed. -/
namespace Go.Proofs.Yteikihidblcljaa
open Go.RowKit
set_option linter.unusedSimpArgs false
set_option linter.unusedVariables false

/-- A slice with a list's pairs in another order, in memory of its own. -/
def MxRet (l : List Pr) (w : World) (e : Ending) (w' : World) : Prop :=
  ∃ a c m, e = .returned (.slice a l.length c) ∧ m.Perm l ∧ Prs w' a m ∧ Below w.heap.size w w'
theorem set3_below {B : Nat} {w0 w : World} {g : Nat} (h : Below B w0 w) (hg : B ≤ g) (k : Nat) (p : Pr) : Below B w0 (set3 w g k p) := by
  unfold set3
  exact ((h.setCell (p := ⟨g, k * 3, none⟩) hg _).setCell (p := ⟨g, k * 3 + 1, none⟩) hg _).setCell (p := ⟨g, k * 3 + 2, none⟩) hg _

end Go.Proofs.Yteikihidblcljaa
