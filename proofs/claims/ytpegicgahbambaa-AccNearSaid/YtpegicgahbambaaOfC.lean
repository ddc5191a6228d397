/- A []float64 that came in, opened: its elements' bits as a list. -/
import Derived.Test.YtpegicgahbambaaM1
import Derived.ProofKit
import Derived.Deep.Slices
namespace Go.Proofs.Ytpegicgahbambaa
open Go.ChangeShapes Go.WideShapes Go.ChangeAt Go.RowKit

theorem trod_float {H : Type} {enc : TypeId × Value → H} {P : Program} {w : World} {base : Nat} {spare : Nat → Bool} {held : Bool} {fuel : Nat} {t : TypeId} {v : Value} {x : DataW H × List MemPlace}
    (ht : P.underlying t = some (.float .f64)) (h : DataW.trod enc P w base spare held fuel t [v] = some x) : ∃ b, v = .float .f64 b ∧ F64 b := by
  cases fuel with
  | zero => simp [DataW.trod] at h
  | succ n =>
    simp only [DataW.trod, ht] at h
    split at h <;> simp_all
    obtain ⟨⟨hk, hw⟩, _⟩ := h
    subst_vars
    exact ⟨by simpa [Lit.wf] using hw⟩

theorem open_floats {H : Type} {enc : TypeId × Value → H} {P : Program} {w : World} {spare : Nat → Bool} {held : Bool} {t e : TypeId} {a : Option Addr} {len cap : Nat} {d : DataW H} {ps : List MemPlace}
    (ht : P.underlying t = some (.slice e)) (he : P.underlying e = some (.float .f64)) (hc : P.cellsOf e = 1) (h : DataW.Trod enc P w 0 spare held t (.slice a len cap) d ps) :
    ∃ l : List Nat, len = l.length ∧ Fls w a l := by
  obtain ⟨fuel, hf⟩ := h
  simp only [Value.cells] at hf
  rcases Go.Deep.open_slice1 ht hc hf with ⟨hcs, _⟩ | ⟨x, l, c, m, n, V, D, Pl, hcs, _, hl, hm, hmm, _, hx⟩
  · simp at hcs
    obtain ⟨rfl, rfl, rfl⟩ := hcs
    exact ⟨[], rfl, { nil := fun _ => rfl, cell := fun b o v h => by simp at h, wf := fun i => ⟨by simp⟩, len := by simp }⟩
  · simp at hcs
    obtain ⟨rfl, rfl, rfl⟩ := hcs
    have hle : len ≤ m := by rw [hmm]; split <;> omega
    have hb : ∀ i, i < len → ∃ b, V i = .float .f64 b ∧ F64 b := fun i hi => trod_float he (hx i (by omega)).2
    obtain ⟨f, hff⟩ := Go.Deep.choose_lt hb
    obtain ⟨b, o, s⟩ := x
    have hs : ∀ i, i < len → w.cell? (Addr.add ⟨b, o, s⟩ i) = some (.float .f64 (f i)) := fun i hi => by rw [(hx i (by omega)).1, (hff i hi).1]
    refine ⟨(List.range len).map f, by simp, { nil := fun h => by simp at h, cell := ?_, wf := ?_, len := ?_ }⟩
    · intro b' o' v' e i hi
      simp at e hi
      obtain ⟨rfl, rfl, rfl⟩ := e
      have hsp : s = none := by
        have := hs 0 (by omega)
        simpa [Addr.add] using World.cell?_spot this
      subst hsp
      refine ⟨rfl, ?_⟩
      have h1 := hs i hi
      have h2 : (Addr.add ⟨b, o, none⟩ i) = ⟨b, o + i, none⟩ := by
        by_cases h0 : i = 0 <;> simp [Addr.add, h0]
      rw [← h2, h1]
      simp [hi]
    · intro i
      by_cases hi : i < len
      · simp [hi]; exact (hff i hi).2
      · simp [hi]; exact ⟨by decide⟩
    · simp; unfold maxLen at hm; omega

end Go.Proofs.Ytpegicgahbambaa
