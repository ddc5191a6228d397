/- AccOrder's list in another order: the walk of tenorlaw3.shuffled. -/
import Derived.Test.YtpegicgahbambaaKvC
import Derived.Test.YtpegicgahbambaaOgC
import Derived.WalkKit
namespace Go.Proofs.Ytpegicgahbambaa
open Go.RowKit
set_option linter.unusedSimpArgs false
set_option linter.unusedVariables false

/-- A row of floats of the call's own: its first cells are the list m. -/
structure FRow (w : World) (g cap : Nat) (m : List Nat) : Prop where
  le : m.length ≤ cap
  max : cap ≤ 9223372036854775807
  row : ∃ J : Nat → Value, w.rowIs g 22 cap (fun i => if i < m.length then .float .f64 (m.getD i 0) else J i)
  wf : ∀ i, F64 (m.getD i 0)
theorem FRow.lt {w : World} {g cap : Nat} {m : List Nat} (h : FRow w g cap m) : g < w.heap.size := by
  obtain ⟨J, hr⟩ := h.row
  exact World.rowIs.lt hr
theorem FRow.frozen {w : World} {g cap : Nat} {m : List Nat} (h : FRow w g cap m) (i : Nat) : w.frozen? ⟨g, i, none⟩ = false := by
  obtain ⟨J, hr⟩ := h.row
  exact World.rowIs.frozen hr i
theorem FRow.cell {w : World} {g cap : Nat} {m : List Nat} (h : FRow w g cap m) (i : Nat) (hi : i < m.length) : w.cell? ⟨g, i, none⟩ = some (.float .f64 (m.getD i 0)) := by
  obtain ⟨J, hr⟩ := h.row
  have := World.rowIs.cell hr (Nat.lt_of_lt_of_le hi h.le)
  rw [if_pos hi] at this
  exact this
theorem FRow.fls {w : World} {g cap : Nat} {m : List Nat} (h : FRow w g cap m) : Fls w (some ⟨g, 0, none⟩) m where
  nil := fun e => by cases e
  cell := fun b o v e i hi => by cases e; exact ⟨rfl, by rw [Nat.zero_add]; exact h.cell i hi⟩
  wf := h.wf
  len := Nat.le_trans h.le h.max
theorem getD_set (m : List Nat) (i y j : Nat) (hi : i < m.length) : (m.set i y).getD j 0 = if j = i then y else m.getD j 0 := by
  simp only [List.getD_eq_getElem?_getD, List.getElem?_set]
  by_cases h : i = j
  · subst h; simp [hi]
  · have : ¬ j = i := fun e => h e.symm
    simp [h, this]
theorem FRow.set {w : World} {g cap : Nat} {m : List Nat} (h : FRow w g cap m) (i y : Nat) (hi : i < m.length) (hy : F64 y) : FRow (w.setCell ⟨g, i, none⟩ (.float .f64 y)) g cap (m.set i y) where
  le := by rw [List.length_set]; exact h.le
  max := h.max
  row := by
    obtain ⟨J, hr⟩ := h.row
    refine ⟨J, (World.rowIs.set hr i (.float .f64 y)).congr fun j hj => ?_⟩
    rw [List.length_set]
    by_cases e : j = i
    · subst e; rw [if_pos rfl, if_pos hi, getD_set _ _ _ _ hi, if_pos rfl]
    · rw [if_neg e, getD_set _ _ _ _ hi, if_neg e]
  wf := fun j => by rw [getD_set _ _ _ _ hi]; split; exact hy; exact h.wf j
theorem FRow.drew {w : World} {g cap : Nat} {m : List Nat} (h : FRow w g cap m) : FRow w.drew g cap m := ⟨h.le, h.max, h.row, h.wf⟩

/-- A list of floats as cells. -/
theorem FRow.of_own {w : World} {base n : Nat} {v : Value} {m : List Nat} (h : w.ownsRow base 22 1 v n (m.map (Value.float .f64))) (hw : ∀ i, F64 (m.getD i 0)) (h0 : v ≠ .slice none 0 0) :
    ∃ g cap, v = .slice (some ⟨g, 0, none⟩) m.length cap ∧ base ≤ g ∧ FRow w g cap m := by
  obtain ⟨hl, h | ⟨g, cap, cur, rfl, hg, hh, hn, hc, hs, ht⟩⟩ := h
  · exact absurd h.1 h0
  rw [List.length_map, Nat.mul_one] at hl
  subst hl
  rw [Nat.mul_one] at hs ht
  refine ⟨g, cap, rfl, hg, hn, Nat.le_trans hc (by unfold maxLen; decide), ⟨fun i => cur.getD i undef, cur, hh, hs, fun i hi => ?_⟩, hw⟩
  show cur[i]? = some (if i < m.length then Value.float FloatKind.f64 (m.getD i 0) else cur.getD i undef)
  by_cases e : i < m.length
  · rw [if_pos e]
    have := congrArg (fun l : List Value => l[i]?) ht
    simp only [List.getElem?_take_of_lt e, List.getElem?_map] at this
    rw [← Array.getElem?_toList, this]
    simp [List.getElem?_eq_getElem e]
  · rw [if_neg e]
    rw [Array.getD_eq_getD_getElem?, Array.getElem?_eq_getElem (by omega)]
    rfl

theorem swap_perm (m : List Nat) (i j : Nat) (hi : i < m.length) (hj : j < m.length) : ((m.set i (m.getD j 0)).set j (m.getD i 0)).Perm m := by
  have := List.set_set_perm hi hj
  simpa [List.getD_eq_getElem?_getD, List.getElem?_eq_getElem hi, List.getElem?_eq_getElem hj] using this
theorem zS_perm {l m : List Nat} (h : l.Perm m) : zS l = zS m ∧ uS l = uS m ∧ dS l = dS m := by
  induction h with
  | nil => exact ⟨rfl, rfl, rfl⟩
  | cons x _ ih => exact ⟨congrArg (aZ x + ·) ih.1, by unfold uS at *; simp only [List.any_cons]; rw [ih.2.1], by unfold dS at *; simp only [List.any_cons]; rw [ih.2.2]⟩
  | swap x y l =>
    refine ⟨?_, ?_, ?_⟩
    · show aZ y + (aZ x + zS l) = aZ x + (aZ y + zS l)
      omega
    · unfold uS; simp only [List.any_cons]; rw [← Bool.or_assoc, Bool.or_comm (upB y), Bool.or_assoc]
    · unfold dS; simp only [List.any_cons]; rw [← Bool.or_assoc, Bool.or_comm (dnB y), Bool.or_assoc]
  | trans _ _ a b => exact ⟨a.1.trans b.1, a.2.1.trans b.2.1, a.2.2.trans b.2.2⟩

theorem place_mod (x : Int) (n : Nat) (hn : 0 < n) (hn2 : n ≤ 9223372036854775807 / 2) : ∃ K : Nat, K < n ∧ (x.tmod n + n).tmod n = (K : Int) ∧ -(n : Int) < x.tmod n ∧ x.tmod n < n := by
  have hp : (0 : Int) < n := by omega
  have h2 : x.tmod n < n := Int.tmod_lt_of_pos x hp
  have h1 : -(n : Int) < x.tmod n := by
    have h3 := Int.tmod_lt_of_pos (-x) hp
    rw [Int.neg_tmod] at h3
    omega
  refine ⟨((x.tmod n + n).tmod n).toNat, ?_, ?_, h1, h2⟩
  · have h3 : 0 ≤ x.tmod n + n := by omega
    have h4 := Int.tmod_lt_of_pos (x.tmod n + n) (show (0 : Int) < n by omega)
    have h5 := Int.tmod_nonneg n h3
    omega
  · have h3 : 0 ≤ x.tmod n + n := by omega
    have h5 := Int.tmod_nonneg n h3
    omega

theorem w_info8 : (Try.prog.info? 22).map (fun i => (i.zero, i.size, i.bytes)) = some (some (.float .f64 0), 1, 8) := by kernel_rfl

end Go.Proofs.Ytpegicgahbambaa
