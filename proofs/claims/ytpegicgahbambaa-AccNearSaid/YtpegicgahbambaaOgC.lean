/- Slices that came in, opened, with what their room is. -/
import Derived.Test.YtpegicgahbambaaOfC
namespace Go.Proofs.Ytpegicgahbambaa
open Go.ChangeShapes Go.WideShapes Go.ChangeAt Go.RowKit

/-- A slice's length and room. -/
structure Room (a : Option Addr) (len cap : Nat) : Prop where
  le : len ≤ cap
  max : cap ≤ 9223372036854775807
  nil : a = none → cap = 0

theorem open_room {H : Type} {enc : TypeId × Value → H} {P : Program} {w : World} {spare : Nat → Bool} {held : Bool} {t e : TypeId} {a : Option Addr} {len cap : Nat} {d : DataW H} {ps : List MemPlace}
    (ht : P.underlying t = some (.slice e)) (hc : P.cellsOf e = 1) (h : DataW.Trod enc P w 0 spare held t (.slice a len cap) d ps) : Room a len cap := by
  obtain ⟨fuel, hf⟩ := h
  simp only [Value.cells] at hf
  rcases Go.Deep.open_slice1 ht hc hf with ⟨hcs, _⟩ | ⟨x, l, c, m, n, V, D, Pl, hcs, _, hl, hm, hmm, _, hx⟩
  · simp at hcs
    obtain ⟨rfl, rfl, rfl⟩ := hcs
    exact ⟨Nat.le_refl _, by decide, fun _ => rfl⟩
  · simp at hcs
    obtain ⟨rfl, rfl, rfl⟩ := hcs
    exact ⟨hl, Nat.le_trans hm (by unfold maxLen; decide), fun e => by cases e⟩

/-- A slice of ints. -/
structure Ins (w : World) (a : Option Addr) (l : List Int) : Prop where
  cell : ∀ k, k < l.length → ∃ b o, a = some ⟨b, o, none⟩ ∧ w.cell? ⟨b, o + k, none⟩ = some (.int .i64 (l.getD k 0))
  wf : ∀ k, -9223372036854775808 ≤ l.getD k 0 ∧ l.getD k 0 ≤ 9223372036854775807
  len : l.length ≤ 9223372036854775807

theorem open_intl {H : Type} {enc : TypeId × Value → H} {P : Program} {w : World} {spare : Nat → Bool} {held : Bool} {t e : TypeId} {a : Option Addr} {len cap : Nat} {d : DataW H} {ps : List MemPlace}
    (ht : P.underlying t = some (.slice e)) (he : P.underlying e = some (.int .i64)) (hc : P.cellsOf e = 1) (h : DataW.Trod enc P w 0 spare held t (.slice a len cap) d ps) :
    ∃ l : List Int, len = l.length ∧ Ins w a l := by
  obtain ⟨fuel, hf⟩ := h
  simp only [Value.cells] at hf
  rcases Go.Deep.open_slice1 ht hc hf with ⟨hcs, _⟩ | ⟨x, l, c, m, n, V, D, Pl, hcs, _, hl, hm, hmm, _, hx⟩
  · simp at hcs
    obtain ⟨rfl, rfl, rfl⟩ := hcs
    exact ⟨[], rfl, { cell := fun k h => by simp at h, wf := fun i => by simp, len := by simp }⟩
  · simp at hcs
    obtain ⟨rfl, rfl, rfl⟩ := hcs
    have hle : len ≤ m := by rw [hmm]; split <;> omega
    have hb : ∀ i, i < len → ∃ b, V i = .int .i64 b ∧ (-9223372036854775808 ≤ b ∧ b ≤ 9223372036854775807) := fun i hi => by
      obtain ⟨b, h1, _, h2⟩ := DataW.trod_int he (hx i (by omega)).2
      simp at h1
      refine ⟨b, h1, ?_⟩
      have h3 : (IntKind.i64).min = -9223372036854775808 := by decide
      have h4 : (IntKind.i64).max = 9223372036854775807 := by decide
      simp only [Lit.wf, Bool.and_eq_true, decide_eq_true_eq, h3, h4] at h2
      exact h2
    obtain ⟨f, hff⟩ := Go.Deep.choose_lt hb
    obtain ⟨b, o, s⟩ := x
    have hs : ∀ i, i < len → w.cell? (Addr.add ⟨b, o, s⟩ i) = some (.int .i64 (f i)) := fun i hi => by rw [(hx i (by omega)).1, (hff i hi).1]
    refine ⟨(List.range len).map f, by simp, { cell := ?_, wf := ?_, len := ?_ }⟩
    · intro i hi
      simp at hi
      have hsp : s = none := by
        have := hs 0 (by omega)
        simpa [Addr.add] using World.cell?_spot this
      subst hsp
      refine ⟨b, o, rfl, ?_⟩
      have h1 := hs i hi
      have h2 : (Addr.add ⟨b, o, none⟩ i) = ⟨b, o + i, none⟩ := by
        by_cases h0 : i = 0 <;> simp [Addr.add, h0]
      rw [← h2, h1]
      simp [hi]
    · intro i
      by_cases hi : i < len
      · simp [hi]; exact (hff i hi).2
      · simp [hi]
    · simp; unfold maxLen at hm; omega

end Go.Proofs.Ytpegicgahbambaa
