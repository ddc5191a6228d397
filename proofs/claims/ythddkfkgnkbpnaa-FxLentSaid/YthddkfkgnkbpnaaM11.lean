/- Put together out of several texts: Of Og Os Kv Kw Kx Ky. -/
import Derived.Test.YthddkfkgnkbpnaaM1
import Derived.Test.YthddkfkgnkbpnaaM10
import Derived.Test.YthddkfkgnkbpnaaM9
import Derived.ProofKit
import Derived.Deep.Slices
import Derived.Deep.Fields
import Derived.BigQuiet
import Derived.WalkKit
import Derived.StillTailTactics
import Derived.Laws.AppendOwnNone

/- A []float64 that came in, opened: its elements' bits as a list. -/
namespace Go.Proofs.Ythddkfkgnkbpnaa
open Go.ChangeShapes Go.WideShapes Go.ChangeAt Go.RowKit

theorem trod_float {H : Type} {enc : TypeId × Value → H} {P : Program} {w : World} {base : Nat} {spare : Nat → Bool} {held : Bool} {fuel : Nat} {t : TypeId} {v : Value} {x : DataW H × List MemPlace}
    (ht : P.underlying t = some (.float .f64)) (h : DataW.trod enc P w base spare held fuel t [v] = some x) : ∃ b, v = .float .f64 b ∧ F64 b := by
  cases fuel with
  | zero => simp [DataW.trod] at h
  | succ n =>
    simp only [DataW.trod, ht] at h
    split at h <;> simp_all
    obtain ⟨⟨hk, hw⟩, _⟩ := h
    subst_vars
    exact ⟨by simpa [Lit.wf] using hw⟩

theorem open_floats {H : Type} {enc : TypeId × Value → H} {P : Program} {w : World} {spare : Nat → Bool} {held : Bool} {t e : TypeId} {a : Option Addr} {len cap : Nat} {d : DataW H} {ps : List MemPlace}
    (ht : P.underlying t = some (.slice e)) (he : P.underlying e = some (.float .f64)) (hc : P.cellsOf e = 1) (h : DataW.Trod enc P w 0 spare held t (.slice a len cap) d ps) :
    ∃ l : List Nat, len = l.length ∧ Fls w a l := by
  obtain ⟨fuel, hf⟩ := h
  simp only [Value.cells] at hf
  rcases Go.Deep.open_slice1 ht hc hf with ⟨hcs, _⟩ | ⟨x, l, c, m, n, V, D, Pl, hcs, _, hl, hm, hmm, _, hx⟩
  · simp at hcs
    obtain ⟨rfl, rfl, rfl⟩ := hcs
    exact ⟨[], rfl, { nil := fun _ => rfl, cell := fun b o v h => by simp at h, wf := fun i => ⟨by simp⟩, len := by simp }⟩
  · simp at hcs
    obtain ⟨rfl, rfl, rfl⟩ := hcs
    have hle : len ≤ m := by rw [hmm]; split <;> omega
    have hb : ∀ i, i < len → ∃ b, V i = .float .f64 b ∧ F64 b := fun i hi => trod_float he (hx i (by omega)).2
    obtain ⟨f, hff⟩ := Go.Deep.choose_lt hb
    obtain ⟨b, o, s⟩ := x
    have hs : ∀ i, i < len → w.cell? (Addr.add ⟨b, o, s⟩ i) = some (.float .f64 (f i)) := fun i hi => by rw [(hx i (by omega)).1, (hff i hi).1]
    refine ⟨(List.range len).map f, by simp, { nil := fun h => by simp at h, cell := ?_, wf := ?_, len := ?_ }⟩
    · intro b' o' v' e i hi
      simp at e hi
      obtain ⟨rfl, rfl, rfl⟩ := e
      have hsp : s = none := by
        have := hs 0 (by omega)
        simpa [Addr.add] using World.cell?_spot this
      subst hsp
      refine ⟨rfl, ?_⟩
      have h1 := hs i hi
      have h2 : (Addr.add ⟨b, o, none⟩ i) = ⟨b, o + i, none⟩ := by
        by_cases h0 : i = 0 <;> simp [Addr.add, h0]
      rw [← h2, h1]
      simp [hi]
    · intro i
      by_cases hi : i < len
      · simp [hi]; exact (hff i hi).2
      · simp [hi]; exact ⟨by decide⟩
    · simp; unfold maxLen at hm; omega

end Go.Proofs.Ythddkfkgnkbpnaa

/- Slices that came in, opened, with what their room is. -/
namespace Go.Proofs.Ythddkfkgnkbpnaa
open Go.ChangeShapes Go.WideShapes Go.ChangeAt Go.RowKit

/-- A slice's length and room. -/
structure Room (a : Option Addr) (len cap : Nat) : Prop where
  le : len ≤ cap
  max : cap ≤ 9223372036854775807
  nil : a = none → cap = 0

theorem open_room {H : Type} {enc : TypeId × Value → H} {P : Program} {w : World} {spare : Nat → Bool} {held : Bool} {t e : TypeId} {a : Option Addr} {len cap : Nat} {d : DataW H} {ps : List MemPlace}
    (ht : P.underlying t = some (.slice e)) (hc : P.cellsOf e = 1) (h : DataW.Trod enc P w 0 spare held t (.slice a len cap) d ps) : Room a len cap := by
  obtain ⟨fuel, hf⟩ := h
  simp only [Value.cells] at hf
  rcases Go.Deep.open_slice1 ht hc hf with ⟨hcs, _⟩ | ⟨x, l, c, m, n, V, D, Pl, hcs, _, hl, hm, hmm, _, hx⟩
  · simp at hcs
    obtain ⟨rfl, rfl, rfl⟩ := hcs
    exact ⟨Nat.le_refl _, by decide, fun _ => rfl⟩
  · simp at hcs
    obtain ⟨rfl, rfl, rfl⟩ := hcs
    exact ⟨hl, Nat.le_trans hm (by unfold maxLen; decide), fun e => by cases e⟩

/-- A slice of ints. -/
structure Ins (w : World) (a : Option Addr) (l : List Int) : Prop where
  cell : ∀ k, k < l.length → ∃ b o, a = some ⟨b, o, none⟩ ∧ w.cell? ⟨b, o + k, none⟩ = some (.int .i64 (l.getD k 0))
  wf : ∀ k, -9223372036854775808 ≤ l.getD k 0 ∧ l.getD k 0 ≤ 9223372036854775807
  len : l.length ≤ 9223372036854775807

theorem open_intl {H : Type} {enc : TypeId × Value → H} {P : Program} {w : World} {spare : Nat → Bool} {held : Bool} {t e : TypeId} {a : Option Addr} {len cap : Nat} {d : DataW H} {ps : List MemPlace}
    (ht : P.underlying t = some (.slice e)) (he : P.underlying e = some (.int .i64)) (hc : P.cellsOf e = 1) (h : DataW.Trod enc P w 0 spare held t (.slice a len cap) d ps) :
    ∃ l : List Int, len = l.length ∧ Ins w a l := by
  obtain ⟨fuel, hf⟩ := h
  simp only [Value.cells] at hf
  rcases Go.Deep.open_slice1 ht hc hf with ⟨hcs, _⟩ | ⟨x, l, c, m, n, V, D, Pl, hcs, _, hl, hm, hmm, _, hx⟩
  · simp at hcs
    obtain ⟨rfl, rfl, rfl⟩ := hcs
    exact ⟨[], rfl, { cell := fun k h => by simp at h, wf := fun i => by simp, len := by simp }⟩
  · simp at hcs
    obtain ⟨rfl, rfl, rfl⟩ := hcs
    have hle : len ≤ m := by rw [hmm]; split <;> omega
    have hb : ∀ i, i < len → ∃ b, V i = .int .i64 b ∧ (-9223372036854775808 ≤ b ∧ b ≤ 9223372036854775807) := fun i hi => by
      obtain ⟨b, h1, _, h2⟩ := DataW.trod_int he (hx i (by omega)).2
      simp at h1
      refine ⟨b, h1, ?_⟩
      have h3 : (IntKind.i64).min = -9223372036854775808 := by decide
      have h4 : (IntKind.i64).max = 9223372036854775807 := by decide
      simp only [Lit.wf, Bool.and_eq_true, decide_eq_true_eq, h3, h4] at h2
      exact h2
    obtain ⟨f, hff⟩ := Go.Deep.choose_lt hb
    obtain ⟨b, o, s⟩ := x
    have hs : ∀ i, i < len → w.cell? (Addr.add ⟨b, o, s⟩ i) = some (.int .i64 (f i)) := fun i hi => by rw [(hx i (by omega)).1, (hff i hi).1]
    refine ⟨(List.range len).map f, by simp, { cell := ?_, wf := ?_, len := ?_ }⟩
    · intro i hi
      simp at hi
      have hsp : s = none := by
        have := hs 0 (by omega)
        simpa [Addr.add] using World.cell?_spot this
      subst hsp
      refine ⟨b, o, rfl, ?_⟩
      have h1 := hs i hi
      have h2 : (Addr.add ⟨b, o, none⟩ i) = ⟨b, o + i, none⟩ := by
        by_cases h0 : i = 0 <;> simp [Addr.add, h0]
      rw [← h2, h1]
      simp [hi]
    · intro i
      by_cases hi : i < len
      · simp [hi]; exact (hff i hi).2
      · simp [hi]
    · simp; unfold maxLen at hm; omega

end Go.Proofs.Ythddkfkgnkbpnaa

/- A slice of structs that came in, opened: each field's cell, whatever the number of fields. -/
namespace Go.Proofs.Ythddkfkgnkbpnaa
open Go.ChangeShapes Go.WideShapes Go.ChangeAt Go.RowKit

/-- Each field of each of the first len elements (k fields an element) is a cell. -/
structure Rws (w : World) (a : Option Addr) (len k : Nat) (V : Nat → Nat → Value) : Prop where
  cell : ∀ i j, i < len → j < k → ∃ b o, a = some ⟨b, o, none⟩ ∧ w.cell? ⟨b, o + (i * k + j), none⟩ = some (V i j)
theorem Rws.belowK {w w' : World} {a : Option Addr} {len k : Nat} {V : Nat → Nat → Value} (h : Rws w a len k V) (hb : Below w.heap.size w w') : Rws w' a len k V :=
  ⟨fun i j hi hj => by
    obtain ⟨b, o, h1, h2⟩ := h.cell i j hi hj
    exact ⟨b, o, h1, by rw [hb.cell (p := ⟨b, o + (i * k + j), none⟩) (World.block_lt_of_cell? _ _ h2), h2]⟩⟩
theorem Rws.addr {w : World} {a : Option Addr} {len k : Nat} {V : Nat → Nat → Value} (h : Rws w a len k V) (hl : 0 < len) (hk : 0 < k) : ∃ b o, a = some ⟨b, o, none⟩ ∧ ∀ i j, i < len → j < k → w.cell? ⟨b, o + (i * k + j), none⟩ = some (V i j) := by
  obtain ⟨b, o, h1, _⟩ := h.cell 0 0 hl hk
  refine ⟨b, o, h1, fun i j hi hj => ?_⟩
  obtain ⟨b', o', h2, h3⟩ := h.cell i j hi hj
  rw [h1] at h2
  cases h2
  exact h3
theorem Rws.empty (w : World) (a : Option Addr) (k : Nat) (V : Nat → Nat → Value) : Rws w a 0 k V := ⟨fun _ _ h => by omega⟩

section
variable {H : Type} {enc : TypeId × Value → H} {P : Program} {w : World} {spare : Nat → Bool} {held : Bool}
theorem open_rows {t e : TypeId} {fs : Array Field} {a : Option Addr} {len cap : Nat} {d : DataW H} {ps : List MemPlace}
    (ht : P.underlying t = some (.slice e)) (he : P.underlying e = some (.struct fs)) (hone : Go.Deep.oneCellFields P fs = true) (hC : P.cellsOf e = fs.size) (h : DataW.Trod enc P w 0 spare held t (.slice a len cap) d ps) :
    Room a len cap ∧ cap ≤ maxLen ∧ ∃ V : Nat → Nat → Value, Rws w a len fs.size V ∧ ∀ i, i < len → ∀ j f, fs[j]? = some f → ∃ n y, DataW.trod enc P w 0 spare held n f.type [V i j] = some y := by
  obtain ⟨fuel, hf⟩ := h
  simp only [Value.cells] at hf
  rcases Go.Deep.open_slice ht hf with ⟨hcs, _⟩ | ⟨x, l, c, m, n, D, Pl, hcs, _, hl, hm, hmm, _, hx⟩
  · simp at hcs
    obtain ⟨rfl, rfl, rfl⟩ := hcs
    exact ⟨⟨Nat.le_refl _, by decide, fun _ => rfl⟩, by decide, fun _ _ => undef, Rws.empty _ _ _ _, fun i hi => by omega⟩
  · simp at hcs
    obtain ⟨rfl, rfl, rfl⟩ := hcs
    have hle : len ≤ m := by rw [hmm]; split <;> omega
    refine ⟨⟨hl, Nat.le_trans hm (by unfold maxLen; decide), fun e => by cases e⟩, hm, ?_⟩
    obtain ⟨b, o, s⟩ := x
    have key : ∀ i, i < len → ∃ cs' : List Value, (∀ j, j < fs.size → w.cell? (Addr.add ⟨b, o, s⟩ (i * fs.size + j)) = some (cs'.getD j undef)) ∧ ∀ j f, fs[j]? = some f → ∃ n y, DataW.trod enc P w 0 spare held n f.type [cs'.getD j undef] = some y := fun i hi => by
      obtain ⟨cs', h1, h2⟩ := hx i (by omega)
      rw [hC] at h1
      obtain ⟨_, hlen, hat⟩ := World.cells?_some h1
      obtain ⟨xs, n', _, _, _, hxl, hfd⟩ := DataW.trod_struct he h2
      refine ⟨cs', fun j hj => ?_, fun j f hj => ?_⟩
      · rw [← Go.Deep.add_add, hat j hj]
        simp only [List.getD_eq_getElem?_getD, List.getElem?_eq_getElem (show j < cs'.length by omega), Option.getD_some]
      · obtain ⟨o1, o2⟩ := Go.Deep.hone_of hone j f hj
        have hlt : j < fs.size := (Array.getElem?_eq_some_iff.1 hj).1
        have h3 := hfd j f hj
        rw [o1, o2, Go.Deep.take1_drop cs' j undef (by omega)] at h3
        exact ⟨n', _, h3.trans (List.getElem?_eq_getElem (by omega))⟩
    obtain ⟨F, hF⟩ := Go.Deep.choose_lt key
    refine ⟨fun i j => (F i).getD j undef, ⟨fun i j hi hj => ?_⟩, fun i hi => (hF i hi).2⟩
    have h0 := (hF i hi).1 j hj
    have hs0 := (hF 0 (by omega)).1 0 (by omega)
    have hsp : s = none := by simpa [Addr.add] using World.cell?_spot hs0
    subst hsp
    refine ⟨b, o, rfl, ?_⟩
    have h2 : ∀ q, (Addr.add ⟨b, o, none⟩ q) = ⟨b, o + q, none⟩ := fun q => by
      by_cases hz : q = 0 <;> simp [Addr.add, hz]
    rw [← h2, h0]

theorem trod_i64 {base : Nat} {fuel : Nat} {t : TypeId} {v : Value} {x : DataW H × List MemPlace} (ht : P.underlying t = some (.int .i64)) (h : DataW.trod enc P w base spare held fuel t [v] = some x) :
    ∃ n : Int, v = .int .i64 n ∧ -9223372036854775808 ≤ n ∧ n ≤ 9223372036854775807 := by
  obtain ⟨b, h1, _, h2⟩ := DataW.trod_int ht h
  simp at h1
  refine ⟨b, h1, ?_⟩
  have h3 : (IntKind.i64).min = -9223372036854775808 := by decide
  have h4 : (IntKind.i64).max = 9223372036854775807 := by decide
  simp only [Lit.wf, Bool.and_eq_true, decide_eq_true_eq, h3, h4] at h2
  exact h2
end

end Go.Proofs.Ythddkfkgnkbpnaa

/- AccGone's walk. -/
namespace Go.Proofs.Ythddkfkgnkbpnaa
open Go.RowKit
set_option linter.unusedSimpArgs false
set_option linter.unusedVariables false

theorem ksub_eq (x : Nat) (hx : F64 x) (w : World) : (FloatKind.f64.format.order (fres .sub x x w) 0 == some .eq) = fin x := by
  have h : cn (fres .sub x x w) = if fin x then 0 else NaNc := by rw [cn_fsub _ _ _ hx hx]; exact fsub_self x hx
  cases c : fin x
  · rw [c] at h
    have hn : nn (fres .sub x x w) = true := by rw [← nn_cn, h]; decide +kernel
    rw [feq _ 0 (F64_fres .sub x x w) F64_0, hn]; rfl
  · rw [c] at h
    have e : fres .sub x x w = 0 := of_cn (h.trans (if_pos rfl)) (by decide +kernel)
    rw [e]; decide +kernel
theorem ksub_ne (x : Nat) (hx : F64 x) (w : World) : (FloatKind.f64.format.order (fres .sub x x w) 0 != some .eq) = !fin x := by
  rw [bne, ksub_eq x hx w]

theorem small_bd (n : Nat) (h : n ≤ 1000) : n ≤ 2 ^ 150 :=
  Nat.le_trans h (Nat.le_trans (show 1000 ≤ 2 ^ 10 by decide) (Nat.pow_le_pow_right (by decide) (by decide)))

end Go.Proofs.Ythddkfkgnkbpnaa

/- AccOrder's list in another order: the walk of tenorlaw3.shuffled. -/
namespace Go.Proofs.Ythddkfkgnkbpnaa
open Go.RowKit
set_option linter.unusedSimpArgs false
set_option linter.unusedVariables false

/-- A row of floats of the call's own: its first cells are the list m. -/
structure FRow (w : World) (g cap : Nat) (m : List Nat) : Prop where
  le : m.length ≤ cap
  max : cap ≤ 9223372036854775807
  row : ∃ J : Nat → Value, w.rowIs g 36 cap (fun i => if i < m.length then .float .f64 (m.getD i 0) else J i)
  wf : ∀ i, F64 (m.getD i 0)
theorem FRow.lt {w : World} {g cap : Nat} {m : List Nat} (h : FRow w g cap m) : g < w.heap.size := by
  obtain ⟨J, hr⟩ := h.row
  exact World.rowIs.lt hr
theorem FRow.frozen {w : World} {g cap : Nat} {m : List Nat} (h : FRow w g cap m) (i : Nat) : w.frozen? ⟨g, i, none⟩ = false := by
  obtain ⟨J, hr⟩ := h.row
  exact World.rowIs.frozen hr i
theorem FRow.cell {w : World} {g cap : Nat} {m : List Nat} (h : FRow w g cap m) (i : Nat) (hi : i < m.length) : w.cell? ⟨g, i, none⟩ = some (.float .f64 (m.getD i 0)) := by
  obtain ⟨J, hr⟩ := h.row
  have := World.rowIs.cell hr (Nat.lt_of_lt_of_le hi h.le)
  rw [if_pos hi] at this
  exact this
theorem FRow.fls {w : World} {g cap : Nat} {m : List Nat} (h : FRow w g cap m) : Fls w (some ⟨g, 0, none⟩) m where
  nil := fun e => by cases e
  cell := fun b o v e i hi => by cases e; exact ⟨rfl, by rw [Nat.zero_add]; exact h.cell i hi⟩
  wf := h.wf
  len := Nat.le_trans h.le h.max
theorem getD_set (m : List Nat) (i y j : Nat) (hi : i < m.length) : (m.set i y).getD j 0 = if j = i then y else m.getD j 0 := by
  simp only [List.getD_eq_getElem?_getD, List.getElem?_set]
  by_cases h : i = j
  · subst h; simp [hi]
  · have : ¬ j = i := fun e => h e.symm
    simp [h, this]
theorem FRow.set {w : World} {g cap : Nat} {m : List Nat} (h : FRow w g cap m) (i y : Nat) (hi : i < m.length) (hy : F64 y) : FRow (w.setCell ⟨g, i, none⟩ (.float .f64 y)) g cap (m.set i y) where
  le := by rw [List.length_set]; exact h.le
  max := h.max
  row := by
    obtain ⟨J, hr⟩ := h.row
    refine ⟨J, (World.rowIs.set hr i (.float .f64 y)).congr fun j hj => ?_⟩
    rw [List.length_set]
    by_cases e : j = i
    · subst e; rw [if_pos rfl, if_pos hi, getD_set _ _ _ _ hi, if_pos rfl]
    · rw [if_neg e, getD_set _ _ _ _ hi, if_neg e]
  wf := fun j => by rw [getD_set _ _ _ _ hi]; split; exact hy; exact h.wf j
theorem FRow.drew {w : World} {g cap : Nat} {m : List Nat} (h : FRow w g cap m) : FRow w.drew g cap m := ⟨h.le, h.max, h.row, h.wf⟩

/-- A list of floats as cells. -/
theorem FRow.of_own {w : World} {base n : Nat} {v : Value} {m : List Nat} (h : w.ownsRow base 36 1 v n (m.map (Value.float .f64))) (hw : ∀ i, F64 (m.getD i 0)) (h0 : v ≠ .slice none 0 0) :
    ∃ g cap, v = .slice (some ⟨g, 0, none⟩) m.length cap ∧ base ≤ g ∧ FRow w g cap m := by
  obtain ⟨hl, h | ⟨g, cap, cur, rfl, hg, hh, hn, hc, hs, ht⟩⟩ := h
  · exact absurd h.1 h0
  rw [List.length_map, Nat.mul_one] at hl
  subst hl
  rw [Nat.mul_one] at hs ht
  refine ⟨g, cap, rfl, hg, hn, Nat.le_trans hc (by unfold maxLen; decide), ⟨fun i => cur.getD i undef, cur, hh, hs, fun i hi => ?_⟩, hw⟩
  show cur[i]? = some (if i < m.length then Value.float FloatKind.f64 (m.getD i 0) else cur.getD i undef)
  by_cases e : i < m.length
  · rw [if_pos e]
    have := congrArg (fun l : List Value => l[i]?) ht
    simp only [List.getElem?_take_of_lt e, List.getElem?_map] at this
    rw [← Array.getElem?_toList, this]
    simp [List.getElem?_eq_getElem e]
  · rw [if_neg e]
    rw [Array.getD_eq_getD_getElem?, Array.getElem?_eq_getElem (by omega)]
    rfl

theorem swap_perm (m : List Nat) (i j : Nat) (hi : i < m.length) (hj : j < m.length) : ((m.set i (m.getD j 0)).set j (m.getD i 0)).Perm m := by
  have := List.set_set_perm hi hj
  simpa [List.getD_eq_getElem?_getD, List.getElem?_eq_getElem hi, List.getElem?_eq_getElem hj] using this
theorem zS_perm {l m : List Nat} (h : l.Perm m) : zS l = zS m ∧ uS l = uS m ∧ dS l = dS m := by
  induction h with
  | nil => exact ⟨rfl, rfl, rfl⟩
  | cons x _ ih => exact ⟨congrArg (aZ x + ·) ih.1, by unfold uS at *; simp only [List.any_cons]; rw [ih.2.1], by unfold dS at *; simp only [List.any_cons]; rw [ih.2.2]⟩
  | swap x y l =>
    refine ⟨?_, ?_, ?_⟩
    · show aZ y + (aZ x + zS l) = aZ x + (aZ y + zS l)
      omega
    · unfold uS; simp only [List.any_cons]; rw [← Bool.or_assoc, Bool.or_comm (upB y), Bool.or_assoc]
    · unfold dS; simp only [List.any_cons]; rw [← Bool.or_assoc, Bool.or_comm (dnB y), Bool.or_assoc]
  | trans _ _ a b => exact ⟨a.1.trans b.1, a.2.1.trans b.2.1, a.2.2.trans b.2.2⟩

theorem place_mod (x : Int) (n : Nat) (hn : 0 < n) (hn2 : n ≤ 9223372036854775807 / 2) : ∃ K : Nat, K < n ∧ (x.tmod n + n).tmod n = (K : Int) ∧ -(n : Int) < x.tmod n ∧ x.tmod n < n := by
  have hp : (0 : Int) < n := by omega
  have h2 : x.tmod n < n := Int.tmod_lt_of_pos x hp
  have h1 : -(n : Int) < x.tmod n := by
    have h3 := Int.tmod_lt_of_pos (-x) hp
    rw [Int.neg_tmod] at h3
    omega
  refine ⟨((x.tmod n + n).tmod n).toNat, ?_, ?_, h1, h2⟩
  · have h3 : 0 ≤ x.tmod n + n := by omega
    have h4 := Int.tmod_lt_of_pos (x.tmod n + n) (show (0 : Int) < n by omega)
    have h5 := Int.tmod_nonneg n h3
    omega
  · have h3 : 0 ≤ x.tmod n + n := by omega
    have h5 := Int.tmod_nonneg n h3
    omega

theorem w_info8 : (Try.prog.info? 36).map (fun i => (i.zero, i.size, i.bytes)) = some (some (.float .f64 0), 1, 8) := by kernel_rfl

end Go.Proofs.Ythddkfkgnkbpnaa

/- The walk of tenorlaw3.shuffled. -/
namespace Go.Proofs.Ythddkfkgnkbpnaa
open Go.RowKit
set_option linter.unusedSimpArgs false
set_option linter.unusedVariables false

theorem below_grown {B : Nat} {a w w' : World} {row : Option Nat} (h : Below B a w) (g : w.grownBy w' row) (hr : ∀ k, row = some k → B ≤ k) (hB : B ≤ w.heap.size) : Below B a w' :=
  ⟨g.os.trans h.os, g.tape.trans h.tape, g.output.trans h.output, Nat.le_trans h.size g.size, fun k hk => (g.block k (by omega) (fun e => by have := hr k e.symm; omega)).trans (h.block k hk)⟩

/-- A slice with a list's floats in another order, in memory of its own. -/
def ShRet (l : List Nat) (w : World) (e : Ending) (w' : World) : Prop :=
  ∃ a c m, e = .returned (.slice a l.length c) ∧ m.Perm l ∧ Fls w' a m ∧ Below w.heap.size w w'
theorem fls_nil (w : World) : Fls w none [] := { nil := fun _ => rfl, cell := fun b o v h => by simp at h, wf := fun i => ⟨by simp⟩, len := by simp }
theorem floats_one (l : List Nat) : ∀ u ∈ l.map (Value.float .f64), u.oneCell' = true := by
  intro u hu
  obtain ⟨x, _, rfl⟩ := List.mem_map.1 hu
  rfl
theorem Fls.news {w : World} {b o : Nat} {l : List Nat} (h : Fls w (Option.some ⟨b, o, none⟩) l) (j : Nat) (u : Value) (hu : (l.map (Value.float .f64))[j]? = Option.some u) : w.cell? ((⟨b, o, none⟩ : Addr).add j) = Option.some u := by
  rw [List.getElem?_map] at hu
  by_cases e : j < l.length
  · rw [List.getElem?_eq_getElem e] at hu
    have h1 := (h.cell b o none rfl j e).2
    rw [show (⟨b, o, none⟩ : Addr).add j = ⟨b, o + j, none⟩ by by_cases h0 : j = 0 <;> simp [Addr.add, h0], h1]
    simp at hu
    rw [← hu]
    simp [List.getD_eq_getElem?_getD, List.getElem?_eq_getElem e]
  · rw [List.getElem?_eq_none (by omega)] at hu
    cases hu

@[go_sem] theorem run_store_float (P : Program) (w : World) (a : Addr) (m : Mode) (k : FloatKind) (x : Nat) : (store a (.float k x) m).run P w = stored P w a (.float k x) m := run_store P w a _ m rfl
theorem cell_lt {w : World} {b i : Nat} {v : Value} (h : w.cell? ⟨b, i, none⟩ = some v) : b < w.heap.size := by
  by_cases e : b < w.heap.size
  · exact e
  · unfold World.cell? at h
    rw [Array.getElem?_eq_none (Nat.le_of_not_lt e)] at h
    simp at h

end Go.Proofs.Ythddkfkgnkbpnaa

/- AccOrder's walk. -/
namespace Go.Proofs.Ythddkfkgnkbpnaa
open Go.RowKit
set_option linter.unusedSimpArgs false
set_option linter.unusedVariables false

theorem F64_overA (z : Int) (up dn : Bool) (n : Nat) : F64 (overA z up dn n) := by
  unfold overA
  split
  · exact ⟨by decide⟩
  · split
    · exact ⟨by decide⟩
    · split
      · exact ⟨by decide⟩
      · unfold nearZ madeN
        have := Nat.min_le_right (rnd (z.natAbs / n) (-2148) (nz (z.natAbs % n))) 9218868437227405312
        split
        · exact ⟨by omega⟩
        · exact ⟨by omega⟩

theorem asame_self (z : Int) (u d : Bool) : asame z u d z u d = true := by unfold asame; simp

end Go.Proofs.Ythddkfkgnkbpnaa
