/- A list of flows of the call's own. -/
import Derived.Test.YteikihidblcljaaM16
import Derived.Test.YteikihidblcljaaM19
import Derived.Test.YteikihidblcljaaM20
namespace Go.Proofs.Yteikihidblcljaa
open Go.RowKit
set_option linter.unusedSimpArgs false
set_option linter.unusedVariables false

theorem Flws.nil (w : World) (ad : Option Addr) : Flws w ad [] := ⟨fun k hk => by simp at hk, fun k => ⟨by simp [fw0]⟩, fun k => by simp [fw0], by simp⟩
theorem take_snocF (l : List Fw) (n : Nat) (h : n < l.length) : l.take (n + 1) = l.take n ++ [l.getD n fw0] := by
  rw [List.take_succ_eq_append_getElem h, getD_F h]
/-- Flows as cells. -/
def flV (l : List Fw) : List Value := l.flatMap fun p => [.int .i64 p.d, .float .f64 p.x, .int .i64 p.c]
theorem flV_snoc (l : List Fw) (p : Fw) : flV (l ++ [p]) = flV l ++ [.int .i64 p.d, .float .f64 p.x, .int .i64 p.c] := by
  unfold flV; rw [List.flatMap_append]; rfl
theorem flV_get (l : List Fw) (j : Nat) (h : j < l.length) : (flV l)[j * 3]? = some (.int .i64 (l.getD j fw0).d) ∧ (flV l)[j * 3 + 1]? = some (.float .f64 (l.getD j fw0).x) ∧ (flV l)[j * 3 + 2]? = some (.int .i64 (l.getD j fw0).c) := by
  unfold flV
  induction l generalizing j with
  | nil => simp at h
  | cons s r ih =>
    cases j with
    | zero => exact ⟨rfl, rfl, rfl⟩
    | succ j =>
      have := ih j (by simpa using h)
      rw [show (j + 1) * 3 = j * 3 + 1 + 1 + 1 by omega]
      simp only [List.flatMap_cons, List.cons_append, List.nil_append, List.getElem?_cons_succ, List.getD_cons_succ]
      exact this
theorem info_flow : (Try.prog.info? 74).map (fun i => (i.zero, i.size, i.bytes)) = some (some (.agg #[.int .i64 0, .float .f64 0, .int .i64 0]), 3, 24) := by kernel_rfl
/-- A row of flows of the call's own: its first ones are the list L. -/
structure FlRow (w : World) (g cap : Nat) (L : List Fw) : Prop where
  le : L.length ≤ cap
  max : cap ≤ 9223372036854775807
  row : ∃ F : Nat → Value, w.rowIs g 74 (cap * 3) F ∧ ∀ k, k < L.length → F (k * 3) = .int .i64 (L.getD k fw0).d ∧ F (k * 3 + 1) = .float .f64 (L.getD k fw0).x ∧ F (k * 3 + 2) = .int .i64 (L.getD k fw0).c
  wf : ∀ k, F64 (L.getD k fw0).x
  rg : ∀ k, (-9223372036854775808 ≤ (L.getD k fw0).d ∧ (L.getD k fw0).d ≤ 9223372036854775807) ∧ (-9223372036854775808 ≤ (L.getD k fw0).c ∧ (L.getD k fw0).c ≤ 9223372036854775807)
theorem FlRow.lt {w : World} {g cap : Nat} {L : List Fw} (h : FlRow w g cap L) : g < w.heap.size := by
  obtain ⟨F, hr, _⟩ := h.row
  exact World.rowIs.lt hr
theorem FlRow.frozen {w : World} {g cap : Nat} {L : List Fw} (h : FlRow w g cap L) (i : Nat) : w.frozen? ⟨g, i, none⟩ = false := by
  obtain ⟨F, hr, _⟩ := h.row
  exact World.rowIs.frozen hr i
theorem FlRow.cell {w : World} {g cap : Nat} {L : List Fw} (h : FlRow w g cap L) (k : Nat) (hk : k < L.length) :
    w.cell? ⟨g, k * 3, none⟩ = some (.int .i64 (L.getD k fw0).d) ∧ w.cell? ⟨g, k * 3 + 1, none⟩ = some (.float .f64 (L.getD k fw0).x) ∧ w.cell? ⟨g, k * 3 + 2, none⟩ = some (.int .i64 (L.getD k fw0).c) := by
  obtain ⟨F, hr, hF⟩ := h.row
  obtain ⟨f1, f2, f3⟩ := hF k hk
  have hle := h.le
  refine ⟨?_, ?_, ?_⟩
  · rw [← f1]; exact World.rowIs.cell hr (by omega)
  · rw [← f2]; exact World.rowIs.cell hr (by omega)
  · rw [← f3]; exact World.rowIs.cell hr (by omega)
theorem FlRow.flws {w : World} {g cap : Nat} {L : List Fw} (h : FlRow w g cap L) : Flws w (some ⟨g, 0, none⟩) L where
  cell := fun k hk => by
    obtain ⟨c1, c2, c3⟩ := h.cell k hk
    exact ⟨g, 0, rfl, by rw [Nat.zero_add]; exact c1, by rw [Nat.zero_add]; exact c2, by rw [Nat.zero_add]; exact c3⟩
  wf := h.wf
  rg := h.rg
  len := Nat.le_trans h.le h.max
theorem FlRow.below {w w' : World} {g cap : Nat} {L : List Fw} (h : FlRow w g cap L) (hb : Below w.heap.size w w') : FlRow w' g cap L := by
  obtain ⟨F, hr, hF⟩ := h.row
  exact ⟨h.le, h.max, ⟨F, hr.of_block (hb.block g h.lt), hF⟩, h.wf, h.rg⟩
/-- One pair of the list written. -/
def setF3 (w : World) (g k : Nat) (p : Fw) : World := ((w.setCell ⟨g, k * 3, none⟩ (.int .i64 p.d)).setCell ⟨g, k * 3 + 1, none⟩ (.float .f64 p.x)).setCell ⟨g, k * 3 + 2, none⟩ (.int .i64 p.c)
theorem getD_setF (m : List Fw) (i : Nat) (y : Fw) (j : Nat) (hi : i < m.length) : (m.set i y).getD j fw0 = if j = i then y else m.getD j fw0 := by
  simp only [List.getD_eq_getElem?_getD, List.getElem?_set]
  by_cases h : i = j
  · subst h; simp [hi]
  · have : ¬ j = i := fun e => h e.symm
    simp [h, this]
structure FwOk (p : Fw) : Prop where
  wf : F64 p.x
  ra : -9223372036854775808 ≤ p.d ∧ p.d ≤ 9223372036854775807
  rb : -9223372036854775808 ≤ p.c ∧ p.c ≤ 9223372036854775807
theorem FlRow.ok {w : World} {g cap : Nat} {L : List Fw} (h : FlRow w g cap L) (k : Nat) : FwOk (L.getD k fw0) := ⟨h.wf k, (h.rg k).1, (h.rg k).2⟩
theorem FlRow.set {w : World} {g cap : Nat} {L : List Fw} (h : FlRow w g cap L) (k : Nat) (p : Fw) (hk : k < L.length) (hp : FwOk p) : FlRow (setF3 w g k p) g cap (L.set k p) where
  le := by rw [List.length_set]; exact h.le
  max := h.max
  row := by
    obtain ⟨F, hr, hF⟩ := h.row
    refine ⟨_, ((hr.set (k * 3) (.int .i64 p.d)).set (k * 3 + 1) (.float .f64 p.x)).set (k * 3 + 2) (.int .i64 p.c), fun j hj => ?_⟩
    rw [List.length_set] at hj
    rw [getD_setF _ _ _ _ hk]
    by_cases e : j = k
    · subst e
      simp
    · obtain ⟨f1, f2, f3⟩ := hF j hj
      rw [if_neg e]
      refine ⟨?_, ?_, ?_⟩
      · rw [if_neg (by omega), if_neg (by omega), if_neg (by omega)]; exact f1
      · rw [if_neg (by omega), if_neg (by omega), if_neg (by omega)]; exact f2
      · rw [if_neg (by omega), if_neg (by omega), if_neg (by omega)]; exact f3
  wf := fun j => by rw [getD_setF _ _ _ _ hk]; split; exact hp.wf; exact h.wf j
  rg := fun j => by rw [getD_setF _ _ _ _ hk]; split; exact ⟨hp.ra, hp.rb⟩; exact h.rg j
/-- What a store of a flow asks. -/
theorem FlRow.asks {w : World} {g cap : Nat} {L : List Fw} (h : FlRow w g cap L) (k : Nat) (p : Fw) (hk : k < L.length) :
    (w.setCell ⟨g, k * 3, none⟩ (.int .i64 p.d)).cell? ⟨g, k * 3 + 1, none⟩ = some (.float .f64 (L.getD k fw0).x) ∧
    ((w.setCell ⟨g, k * 3, none⟩ (.int .i64 p.d)).setCell ⟨g, k * 3 + 1, none⟩ (.float .f64 p.x)).cell? ⟨g, k * 3 + 2, none⟩ = some (.int .i64 (L.getD k fw0).c) ∧
    (∀ i, (w.setCell ⟨g, k * 3, none⟩ (.int .i64 p.d)).frozen? ⟨g, i, none⟩ = false) ∧
    (∀ i, ((w.setCell ⟨g, k * 3, none⟩ (.int .i64 p.d)).setCell ⟨g, k * 3 + 1, none⟩ (.float .f64 p.x)).frozen? ⟨g, i, none⟩ = false) := by
  obtain ⟨c1, c2, c3⟩ := h.cell k hk
  refine ⟨?_, ?_, fun i => ?_, fun i => ?_⟩
  · rw [World.cell?_setCell_other _ _ _ _ (by simp)]; exact c2
  · rw [World.cell?_setCell_other _ _ _ _ (by simp), World.cell?_setCell_other _ _ _ _ (by simp)]; exact c3
  · rw [World.frozen?_setCell]; exact h.frozen i
  · rw [World.frozen?_setCell, World.frozen?_setCell]; exact h.frozen i
theorem FlRow.of_own {w : World} {base n : Nat} {v : Value} {L : List Fw} (h : w.ownsRow base 74 3 v n (flV L)) (hn : n = L.length) (hw : ∀ k, F64 (L.getD k fw0).x)
    (hr : ∀ k, (-9223372036854775808 ≤ (L.getD k fw0).d ∧ (L.getD k fw0).d ≤ 9223372036854775807) ∧ (-9223372036854775808 ≤ (L.getD k fw0).c ∧ (L.getD k fw0).c ≤ 9223372036854775807)) (h0 : L ≠ []) :
    ∃ g cap, v = .slice (some ⟨g, 0, none⟩) L.length cap ∧ base ≤ g ∧ FlRow w g cap L := by
  subst hn
  obtain ⟨hl, h | ⟨g, cap, cur, rfl, hg, hh, hn, hc, hs, ht⟩⟩ := h
  · exact absurd (List.length_eq_zero_iff.1 h.2) h0
  refine ⟨g, cap, rfl, hg, hn, Nat.le_trans hc (by unfold maxLen; decide), ⟨fun i => cur.getD i undef, ⟨cur, hh, hs, fun i hi => ?_⟩, fun k hk => ?_⟩, hw, hr⟩
  · show cur[i]? = some (cur.getD i undef)
    rw [Array.getD_eq_getD_getElem?, Array.getElem?_eq_getElem (by omega)]
    rfl
  · obtain ⟨c1, c2, c3⟩ := flV_get L k hk
    have key : ∀ i v, i < L.length * 3 → (flV L)[i]? = some v → cur.getD i undef = v := fun i v hi hv => by
      have := congrArg (fun l : List Value => l[i]?) ht
      simp only [List.getElem?_take_of_lt hi] at this
      rw [hv] at this
      rw [Array.getD_eq_getD_getElem?, ← Array.getElem?_toList, this]
      rfl
    exact ⟨key _ _ (by omega) c1, key _ _ (by omega) c2, key _ _ (by omega) c3⟩
theorem swapF_perm (m : List Fw) (i j : Nat) (hi : i < m.length) (hj : j < m.length) : ((m.set i (m.getD j fw0)).set j (m.getD i fw0)).Perm m := by
  have := List.set_set_perm hi hj
  simpa [List.getD_eq_getElem?_getD, List.getElem?_eq_getElem hi, List.getElem?_eq_getElem hj] using this
theorem flV_len (L : List Fw) : (flV L).length = L.length * 3 := by
  unfold flV
  induction L with
  | nil => rfl
  | cons p L ih => rw [List.flatMap_cons, List.length_append, ih]; simp; omega
theorem flV_one (L : List Fw) : ∀ u ∈ flV L, u.oneCell' = true := by
  intro u hu
  unfold flV at hu
  obtain ⟨p, _, hp⟩ := List.mem_flatMap.1 hu
  simp at hp
  rcases hp with rfl | rfl | rfl <;> rfl
theorem Flws.news {w : World} {b o : Nat} {L : List Fw} (h : Flws w (some ⟨b, o, none⟩) L) (j : Nat) (u : Value) (hu : (flV L)[j]? = some u) : w.cell? ((⟨b, o, none⟩ : Addr).add j) = some u := by
  have hj : j < L.length * 3 := by rw [← flV_len]; exact (List.getElem?_eq_some_iff.1 hu).1
  rw [show (⟨b, o, none⟩ : Addr).add j = ⟨b, o + j, none⟩ by by_cases h0 : j = 0 <;> simp [Addr.add, h0]]
  obtain ⟨b', o', e, c1, c2, c3⟩ := h.cell (j / 3) (by omega)
  cases e
  obtain ⟨d1, d2, d3⟩ := flV_get L (j / 3) (by omega)
  have h3 : j = j / 3 * 3 ∨ j = j / 3 * 3 + 1 ∨ j = j / 3 * 3 + 2 := by omega
  generalize j / 3 = q at *
  rcases h3 with rfl | rfl | rfl
  · rw [d1] at hu; cases hu; exact c1
  · rw [d2] at hu; cases hu; exact c2
  · rw [d3] at hu; cases hu; exact c3

end Go.Proofs.Yteikihidblcljaa
