/- A table that came in: how long its slice of floats may be, by the form's reach. -/
import Derived.Test.YtmmcnjoeepgpgaaGreatM11
import Derived.SizedLaws
namespace Go.Proofs.YtmmcnjoeepgpgaaGreat
open Go.ChangeShapes Go.WideShapes Go.ChangeAt Go.RowKit

theorem table_sized {H : Type} {enc : TypeId × Value → H} {P : Program} {w : World} {spare : Nat → Bool} {held : Bool} {r : Reach} {b0 : Nat} {t te : TypeId} {f0 f1 f2 : Field} {d : DataW H} {p : List MemPlace}
    {kind : Int} {ax ay : Option Addr} {lx cx ly cy : Nat}
    (hs : P.underlying t = some (.struct #[f0, f1, f2])) (hone : Go.Deep.oneCellFields P #[f0, f1, f2] = true) (hC : P.cellsOf t = 3)
    (h2 : P.underlying f2.type = some (.slice te)) (c2 : P.cellsOf te = 1) (hb : P.bytesOf te = 8)
    (hv : Value.okWide P w r b0 t (.agg #[.int .i64 kind, .slice ax lx cx, .slice ay ly cy])) (h : DataW.Trod enc P w 0 spare held t (.agg #[.int .i64 kind, .slice ax lx cx, .slice ay ly cy]) d p)
    (hw : ∀ n ∈ DataW.weights P t d, n ≤ reachBytes) : ly ≤ 17592186044416 := by
  obtain ⟨v0, v1, v2, y0, y1, y2, n, e, rfl, rfl, t0, t1, t2⟩ := Go.Joins.open_agg3 hs hone hC hv h
  simp only [Value.agg.injEq, Array.mk.injEq, List.cons.injEq, and_true] at e
  obtain ⟨rfl, rfl, rfl⟩ := e
  rcases Go.Deep.open_slice1 h2 c2 t2 with ⟨hcs, _⟩ | ⟨x, l, c, m, n', V, D, Pl, hcs, _, hl, hm, hmm, rfl, hx⟩
  · simp at hcs
    omega
  · simp at hcs
    obtain ⟨_, rfl, _⟩ := hcs
    have hin := hw _ (by
      simp only [DataW.weights, hs]
      exact DataW.weights_mem_each (j := 2) (t := f2.type) rfl rfl ((((List.range ly).map D).length + ((List.range (m - ly)).map fun j => D (ly + j)).length) * P.bytesOf te) (by simp [DataW.weights, h2]))
    rw [hb] at hin
    simp only [List.length_map, List.length_range] at hin
    have : reachBytes < 2 ^ 47 := reachBytes_lt
    omega

end Go.Proofs.YtmmcnjoeepgpgaaGreat
