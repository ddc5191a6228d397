/- Put together out of several texts: Yy Yz. -/
import Derived.Test.YteikihidblcljaaGreatM16
import Derived.Test.YteikihidblcljaaGreatM19
import Derived.Test.YteikihidblcljaaGreatM11
import Derived.StillTailTactics
import Derived.Laws.AppendOwnNone

/- A list of pairs of the call's own; the walk of tenorlaw23's mixed. -/
namespace Go.Proofs.YteikihidblcljaaGreat
open Go.RowKit
set_option linter.unusedSimpArgs false
set_option linter.unusedVariables false

/-- A row of pairs of the call's own: its first ones are the list L. -/
structure PRow (w : World) (g cap : Nat) (L : List Pr) : Prop where
  le : L.length ≤ cap
  max : cap ≤ 9223372036854775807
  row : ∃ F : Nat → Value, w.rowIs g 95 (cap * 3) F ∧ ∀ k, k < L.length → F (k * 3) = .int .i64 (L.getD k pr0).a ∧ F (k * 3 + 1) = .int .i64 (L.getD k pr0).b ∧ F (k * 3 + 2) = .float .f64 (L.getD k pr0).x
  wf : ∀ k, F64 (L.getD k pr0).x
  rg : ∀ k, (-9223372036854775808 ≤ (L.getD k pr0).a ∧ (L.getD k pr0).a ≤ 9223372036854775807) ∧ (-9223372036854775808 ≤ (L.getD k pr0).b ∧ (L.getD k pr0).b ≤ 9223372036854775807)
theorem PRow.lt {w : World} {g cap : Nat} {L : List Pr} (h : PRow w g cap L) : g < w.heap.size := by
  obtain ⟨F, hr, _⟩ := h.row
  exact World.rowIs.lt hr
theorem PRow.frozen {w : World} {g cap : Nat} {L : List Pr} (h : PRow w g cap L) (i : Nat) : w.frozen? ⟨g, i, none⟩ = false := by
  obtain ⟨F, hr, _⟩ := h.row
  exact World.rowIs.frozen hr i
theorem PRow.cell {w : World} {g cap : Nat} {L : List Pr} (h : PRow w g cap L) (k : Nat) (hk : k < L.length) :
    w.cell? ⟨g, k * 3, none⟩ = some (.int .i64 (L.getD k pr0).a) ∧ w.cell? ⟨g, k * 3 + 1, none⟩ = some (.int .i64 (L.getD k pr0).b) ∧ w.cell? ⟨g, k * 3 + 2, none⟩ = some (.float .f64 (L.getD k pr0).x) := by
  obtain ⟨F, hr, hF⟩ := h.row
  obtain ⟨f1, f2, f3⟩ := hF k hk
  have hle := h.le
  refine ⟨?_, ?_, ?_⟩
  · rw [← f1]; exact World.rowIs.cell hr (by omega)
  · rw [← f2]; exact World.rowIs.cell hr (by omega)
  · rw [← f3]; exact World.rowIs.cell hr (by omega)
theorem PRow.prs {w : World} {g cap : Nat} {L : List Pr} (h : PRow w g cap L) : Prs w (some ⟨g, 0, none⟩) L where
  cell := fun k hk => by
    obtain ⟨c1, c2, c3⟩ := h.cell k hk
    exact ⟨g, 0, rfl, by rw [Nat.zero_add]; exact c1, by rw [Nat.zero_add]; exact c2, by rw [Nat.zero_add]; exact c3⟩
  wf := h.wf
  rg := h.rg
  len := Nat.le_trans h.le h.max
theorem PRow.below {w w' : World} {g cap : Nat} {L : List Pr} (h : PRow w g cap L) (hb : Below w.heap.size w w') : PRow w' g cap L := by
  obtain ⟨F, hr, hF⟩ := h.row
  exact ⟨h.le, h.max, ⟨F, hr.of_block (hb.block g h.lt), hF⟩, h.wf, h.rg⟩
/-- One pair of the list written. -/
def set3 (w : World) (g k : Nat) (p : Pr) : World := ((w.setCell ⟨g, k * 3, none⟩ (.int .i64 p.a)).setCell ⟨g, k * 3 + 1, none⟩ (.int .i64 p.b)).setCell ⟨g, k * 3 + 2, none⟩ (.float .f64 p.x)
theorem getD_setP (m : List Pr) (i : Nat) (y : Pr) (j : Nat) (hi : i < m.length) : (m.set i y).getD j pr0 = if j = i then y else m.getD j pr0 := by
  simp only [List.getD_eq_getElem?_getD, List.getElem?_set]
  by_cases h : i = j
  · subst h; simp [hi]
  · have : ¬ j = i := fun e => h e.symm
    simp [h, this]
structure PrOk (p : Pr) : Prop where
  wf : F64 p.x
  ra : -9223372036854775808 ≤ p.a ∧ p.a ≤ 9223372036854775807
  rb : -9223372036854775808 ≤ p.b ∧ p.b ≤ 9223372036854775807
theorem PRow.ok {w : World} {g cap : Nat} {L : List Pr} (h : PRow w g cap L) (k : Nat) : PrOk (L.getD k pr0) := ⟨h.wf k, (h.rg k).1, (h.rg k).2⟩
theorem PRow.set {w : World} {g cap : Nat} {L : List Pr} (h : PRow w g cap L) (k : Nat) (p : Pr) (hk : k < L.length) (hp : PrOk p) : PRow (set3 w g k p) g cap (L.set k p) where
  le := by rw [List.length_set]; exact h.le
  max := h.max
  row := by
    obtain ⟨F, hr, hF⟩ := h.row
    refine ⟨_, ((hr.set (k * 3) (.int .i64 p.a)).set (k * 3 + 1) (.int .i64 p.b)).set (k * 3 + 2) (.float .f64 p.x), fun j hj => ?_⟩
    rw [List.length_set] at hj
    rw [getD_setP _ _ _ _ hk]
    by_cases e : j = k
    · subst e
      simp
    · obtain ⟨f1, f2, f3⟩ := hF j hj
      rw [if_neg e]
      refine ⟨?_, ?_, ?_⟩
      · rw [if_neg (by omega), if_neg (by omega), if_neg (by omega)]; exact f1
      · rw [if_neg (by omega), if_neg (by omega), if_neg (by omega)]; exact f2
      · rw [if_neg (by omega), if_neg (by omega), if_neg (by omega)]; exact f3
  wf := fun j => by rw [getD_setP _ _ _ _ hk]; split; exact hp.wf; exact h.wf j
  rg := fun j => by rw [getD_setP _ _ _ _ hk]; split; exact ⟨hp.ra, hp.rb⟩; exact h.rg j
/-- What a store of a pair asks. -/
theorem PRow.asks {w : World} {g cap : Nat} {L : List Pr} (h : PRow w g cap L) (k : Nat) (p : Pr) (hk : k < L.length) :
    (w.setCell ⟨g, k * 3, none⟩ (.int .i64 p.a)).cell? ⟨g, k * 3 + 1, none⟩ = some (.int .i64 (L.getD k pr0).b) ∧
    ((w.setCell ⟨g, k * 3, none⟩ (.int .i64 p.a)).setCell ⟨g, k * 3 + 1, none⟩ (.int .i64 p.b)).cell? ⟨g, k * 3 + 2, none⟩ = some (.float .f64 (L.getD k pr0).x) ∧
    (∀ i, (w.setCell ⟨g, k * 3, none⟩ (.int .i64 p.a)).frozen? ⟨g, i, none⟩ = false) ∧
    (∀ i, ((w.setCell ⟨g, k * 3, none⟩ (.int .i64 p.a)).setCell ⟨g, k * 3 + 1, none⟩ (.int .i64 p.b)).frozen? ⟨g, i, none⟩ = false) := by
  obtain ⟨c1, c2, c3⟩ := h.cell k hk
  refine ⟨?_, ?_, fun i => ?_, fun i => ?_⟩
  · rw [World.cell?_setCell_other _ _ _ _ (by simp)]; exact c2
  · rw [World.cell?_setCell_other _ _ _ _ (by simp), World.cell?_setCell_other _ _ _ _ (by simp)]; exact c3
  · rw [World.frozen?_setCell]; exact h.frozen i
  · rw [World.frozen?_setCell, World.frozen?_setCell]; exact h.frozen i
theorem PRow.of_own {w : World} {base n : Nat} {v : Value} {L : List Pr} (h : w.ownsRow base 95 3 v n (prV L)) (hn : n = L.length) (hw : ∀ k, F64 (L.getD k pr0).x)
    (hr : ∀ k, (-9223372036854775808 ≤ (L.getD k pr0).a ∧ (L.getD k pr0).a ≤ 9223372036854775807) ∧ (-9223372036854775808 ≤ (L.getD k pr0).b ∧ (L.getD k pr0).b ≤ 9223372036854775807)) (h0 : L ≠ []) :
    ∃ g cap, v = .slice (some ⟨g, 0, none⟩) L.length cap ∧ base ≤ g ∧ PRow w g cap L := by
  subst hn
  obtain ⟨hl, h | ⟨g, cap, cur, rfl, hg, hh, hn, hc, hs, ht⟩⟩ := h
  · exact absurd (List.length_eq_zero_iff.1 h.2) h0
  refine ⟨g, cap, rfl, hg, hn, Nat.le_trans hc (by unfold maxLen; decide), ⟨fun i => cur.getD i undef, ⟨cur, hh, hs, fun i hi => ?_⟩, fun k hk => ?_⟩, hw, hr⟩
  · show cur[i]? = some (cur.getD i undef)
    rw [Array.getD_eq_getD_getElem?, Array.getElem?_eq_getElem (by omega)]
    rfl
  · obtain ⟨c1, c2, c3⟩ := prV_get L k hk
    have key : ∀ i v, i < L.length * 3 → (prV L)[i]? = some v → cur.getD i undef = v := fun i v hi hv => by
      have := congrArg (fun l : List Value => l[i]?) ht
      simp only [List.getElem?_take_of_lt hi] at this
      rw [hv] at this
      rw [Array.getD_eq_getD_getElem?, ← Array.getElem?_toList, this]
      rfl
    exact ⟨key _ _ (by omega) c1, key _ _ (by omega) c2, key _ _ (by omega) c3⟩
theorem swapP_perm (m : List Pr) (i j : Nat) (hi : i < m.length) (hj : j < m.length) : ((m.set i (m.getD j pr0)).set j (m.getD i pr0)).Perm m := by
  have := List.set_set_perm hi hj
  simpa [List.getD_eq_getElem?_getD, List.getElem?_eq_getElem hi, List.getElem?_eq_getElem hj] using this
theorem prV_len (L : List Pr) : (prV L).length = L.length * 3 := by
  unfold prV
  induction L with
  | nil => rfl
  | cons p L ih => rw [List.flatMap_cons, List.length_append, ih]; simp; omega
theorem prV_one (L : List Pr) : ∀ u ∈ prV L, u.oneCell' = true := by
  intro u hu
  unfold prV at hu
  obtain ⟨p, _, hp⟩ := List.mem_flatMap.1 hu
  simp at hp
  rcases hp with rfl | rfl | rfl <;> rfl
theorem Prs.news {w : World} {b o : Nat} {L : List Pr} (h : Prs w (some ⟨b, o, none⟩) L) (j : Nat) (u : Value) (hu : (prV L)[j]? = some u) : w.cell? ((⟨b, o, none⟩ : Addr).add j) = some u := by
  have hj : j < L.length * 3 := by rw [← prV_len]; exact (List.getElem?_eq_some_iff.1 hu).1
  rw [show (⟨b, o, none⟩ : Addr).add j = ⟨b, o + j, none⟩ by by_cases h0 : j = 0 <;> simp [Addr.add, h0]]
  obtain ⟨b', o', e, c1, c2, c3⟩ := h.cell (j / 3) (by omega)
  cases e
  obtain ⟨d1, d2, d3⟩ := prV_get L (j / 3) (by omega)
  have h3 : j = j / 3 * 3 ∨ j = j / 3 * 3 + 1 ∨ j = j / 3 * 3 + 2 := by omega
  generalize j / 3 = q at *
  rcases h3 with rfl | rfl | rfl
  · rw [d1] at hu; cases hu; exact c1
  · rw [d2] at hu; cases hu; exact c2
  · rw [d3] at hu; cases hu; exact c3

end Go.Proofs.YteikihidblcljaaGreat

/- The walk of tenorlaw23's mixed. -/
namespace Go.Proofs.YteikihidblcljaaGreat
open Go.RowKit
set_option linter.unusedSimpArgs false
set_option linter.unusedVariables false

/-- A slice with a list's pairs in another order, in memory of its own. -/
def MxRet (l : List Pr) (w : World) (e : Ending) (w' : World) : Prop :=
  ∃ a c m, e = .returned (.slice a l.length c) ∧ m.Perm l ∧ Prs w' a m ∧ Below w.heap.size w w'
theorem info_partsP : ∃ i, Tryz.prog.info? 95 = some i ∧ i.zero = some (.agg #[.int .i64 0, .int .i64 0, .float .f64 0]) ∧ i.size = 3 ∧ i.bytes = 24 := by
  have := info_pair
  cases h : Tryz.prog.info? 95 with
  | none => simp [h] at this
  | some i => simp [h] at this; exact ⟨i, rfl, this.1, this.2.1, this.2.2⟩

theorem set3_below {B : Nat} {w0 w : World} {g : Nat} (h : Below B w0 w) (hg : B ≤ g) (k : Nat) (p : Pr) : Below B w0 (set3 w g k p) := by
  unfold set3
  exact ((h.setCell (p := ⟨g, k * 3, none⟩) hg _).setCell (p := ⟨g, k * 3 + 1, none⟩) hg _).setCell (p := ⟨g, k * 3 + 2, none⟩) hg _

end Go.Proofs.YteikihidblcljaaGreat
