/- A curve that came in (a base, a kind, a slice of whole numbers, a slice of floats), opened. -/
import Derived.Test.YteikihidblcljaaM11
import Derived.Lib.SmallJoins
namespace Go.Proofs.Yteikihidblcljaa
open Go.ChangeShapes Go.WideShapes Go.ChangeAt Go.RowKit

theorem open_curve {H : Type} {enc : TypeId × Value → H} {P : Program} {w : World} {spare : Nat → Bool} {held : Bool} {r : Reach} {b0 : Nat} {t ti te : TypeId} {f f0 f1 f2 : Field} {v : Value} {d : DataW H} {p : List MemPlace}
    (hs : P.underlying t = some (.struct #[f, f0, f1, f2])) (hone : Go.Deep.oneCellFields P #[f, f0, f1, f2] = true) (hC : P.cellsOf t = 4)
    (hb : P.underlying f.type = some (.int .i64)) (h0 : P.underlying f0.type = some (.int .i64)) (h1 : P.underlying f1.type = some (.slice ti)) (hti : P.underlying ti = some (.int .i64)) (c1 : P.cellsOf ti = 1)
    (h2 : P.underlying f2.type = some (.slice te)) (hte : P.underlying te = some (.float .f64)) (c2 : P.cellsOf te = 1)
    (hv : Value.okWide P w r b0 t v) (h : DataW.Trod enc P w 0 spare held t v d p) :
    ∃ (ba kind : Int) (ax : Option Addr) (X : List Int) (cx : Nat) (ay : Option Addr) (Y : List Nat) (cy : Nat), v = .agg #[.int .i64 ba, .int .i64 kind, .slice ax X.length cx, .slice ay Y.length cy] ∧
      (-9223372036854775808 ≤ ba ∧ ba ≤ 9223372036854775807) ∧ (-9223372036854775808 ≤ kind ∧ kind ≤ 9223372036854775807) ∧ Ins w ax X ∧ Room ax X.length cx ∧ Fls w ay Y ∧ Room ay Y.length cy := by
  obtain ⟨v3, v0, v1, v2, y3, y0, y1, y2, n, rfl, rfl, rfl, t3, t0, t1, t2⟩ := Go.Joins.open_agg4 hs hone hC hv h
  obtain ⟨ba, rfl, j1, j2⟩ := trod_i64 hb t3
  obtain ⟨kind, rfl, k1, k2⟩ := trod_i64 h0 t0
  obtain ⟨ax, lx, cx, e1⟩ := Go.Joins.slice_form h1 t1
  obtain ⟨ay, ly, cy, e2⟩ := Go.Joins.slice_form h2 t2
  simp only [List.cons.injEq, and_true] at e1 e2
  subst e1
  subst e2
  have T1 : DataW.Trod enc P w 0 spare held f1.type (.slice ax lx cx) y1.1 y1.2 := ⟨n, by simpa [Value.cells] using t1⟩
  have T2 : DataW.Trod enc P w 0 spare held f2.type (.slice ay ly cy) y2.1 y2.2 := ⟨n, by simpa [Value.cells] using t2⟩
  have r1 := open_room h1 c1 T1
  have r2 := open_room h2 c2 T2
  obtain ⟨X, rfl, ix⟩ := open_intl h1 hti c1 T1
  obtain ⟨Y, rfl, fy⟩ := open_floats h2 hte c2 T2
  exact ⟨ba, kind, ax, X, cx, ay, Y, cy, rfl, ⟨j1, j2⟩, ⟨k1, k2⟩, ix, r1, fy, r2⟩

end Go.Proofs.Yteikihidblcljaa
