/- Put together out of several texts: Kv Of Og Kw Kx Ky Kz Os Ot. -/
import Derived.Test.YteikihidblcljaaM10
import Derived.Test.YteikihidblcljaaM9
import Derived.Test.YteikihidblcljaaM1
import Derived.BigQuiet
import Derived.ProofKit
import Derived.Deep.Slices
import Derived.WalkKit
import Derived.StillTailTactics
import Derived.Laws.AppendOwnNone
import Derived.Deep.Fields
import Derived.Lib.SmallJoins

/- AccGone's walk. -/
namespace Go.Proofs.Yteikihidblcljaa
open Go.RowKit
set_option linter.unusedSimpArgs false
set_option linter.unusedVariables false

theorem ksub_eq (x : Nat) (hx : F64 x) (w : World) : (FloatKind.f64.format.order (fres .sub x x w) 0 == some .eq) = fin x := by
  have h : cn (fres .sub x x w) = if fin x then 0 else NaNc := by rw [cn_fsub _ _ _ hx hx]; exact fsub_self x hx
  cases c : fin x
  · rw [c] at h
    have hn : nn (fres .sub x x w) = true := by rw [← nn_cn, h]; decide +kernel
    rw [feq _ 0 (F64_fres .sub x x w) F64_0, hn]; rfl
  · rw [c] at h
    have e : fres .sub x x w = 0 := of_cn (h.trans (if_pos rfl)) (by decide +kernel)
    rw [e]; decide +kernel
theorem ksub_ne (x : Nat) (hx : F64 x) (w : World) : (FloatKind.f64.format.order (fres .sub x x w) 0 != some .eq) = !fin x := by
  rw [bne, ksub_eq x hx w]

theorem small_bd (n : Nat) (h : n ≤ 1000) : n ≤ 2 ^ 150 :=
  Nat.le_trans h (Nat.le_trans (show 1000 ≤ 2 ^ 10 by decide) (Nat.pow_le_pow_right (by decide) (by decide)))

end Go.Proofs.Yteikihidblcljaa

/- A []float64 that came in, opened: its elements' bits as a list. -/
namespace Go.Proofs.Yteikihidblcljaa
open Go.ChangeShapes Go.WideShapes Go.ChangeAt Go.RowKit

theorem trod_float {H : Type} {enc : TypeId × Value → H} {P : Program} {w : World} {base : Nat} {spare : Nat → Bool} {held : Bool} {fuel : Nat} {t : TypeId} {v : Value} {x : DataW H × List MemPlace}
    (ht : P.underlying t = some (.float .f64)) (h : DataW.trod enc P w base spare held fuel t [v] = some x) : ∃ b, v = .float .f64 b ∧ F64 b := by
  cases fuel with
  | zero => simp [DataW.trod] at h
  | succ n =>
    simp only [DataW.trod, ht] at h
    split at h <;> simp_all
    obtain ⟨⟨hk, hw⟩, _⟩ := h
    subst_vars
    exact ⟨by simpa [Lit.wf] using hw⟩

theorem open_floats {H : Type} {enc : TypeId × Value → H} {P : Program} {w : World} {spare : Nat → Bool} {held : Bool} {t e : TypeId} {a : Option Addr} {len cap : Nat} {d : DataW H} {ps : List MemPlace}
    (ht : P.underlying t = some (.slice e)) (he : P.underlying e = some (.float .f64)) (hc : P.cellsOf e = 1) (h : DataW.Trod enc P w 0 spare held t (.slice a len cap) d ps) :
    ∃ l : List Nat, len = l.length ∧ Fls w a l := by
  obtain ⟨fuel, hf⟩ := h
  simp only [Value.cells] at hf
  rcases Go.Deep.open_slice1 ht hc hf with ⟨hcs, _⟩ | ⟨x, l, c, m, n, V, D, Pl, hcs, _, hl, hm, hmm, _, hx⟩
  · simp at hcs
    obtain ⟨rfl, rfl, rfl⟩ := hcs
    exact ⟨[], rfl, { nil := fun _ => rfl, cell := fun b o v h => by simp at h, wf := fun i => ⟨by simp⟩, len := by simp }⟩
  · simp at hcs
    obtain ⟨rfl, rfl, rfl⟩ := hcs
    have hle : len ≤ m := by rw [hmm]; split <;> omega
    have hb : ∀ i, i < len → ∃ b, V i = .float .f64 b ∧ F64 b := fun i hi => trod_float he (hx i (by omega)).2
    obtain ⟨f, hff⟩ := Go.Deep.choose_lt hb
    obtain ⟨b, o, s⟩ := x
    have hs : ∀ i, i < len → w.cell? (Addr.add ⟨b, o, s⟩ i) = some (.float .f64 (f i)) := fun i hi => by rw [(hx i (by omega)).1, (hff i hi).1]
    refine ⟨(List.range len).map f, by simp, { nil := fun h => by simp at h, cell := ?_, wf := ?_, len := ?_ }⟩
    · intro b' o' v' e i hi
      simp at e hi
      obtain ⟨rfl, rfl, rfl⟩ := e
      have hsp : s = none := by
        have := hs 0 (by omega)
        simpa [Addr.add] using World.cell?_spot this
      subst hsp
      refine ⟨rfl, ?_⟩
      have h1 := hs i hi
      have h2 : (Addr.add ⟨b, o, none⟩ i) = ⟨b, o + i, none⟩ := by
        by_cases h0 : i = 0 <;> simp [Addr.add, h0]
      rw [← h2, h1]
      simp [hi]
    · intro i
      by_cases hi : i < len
      · simp [hi]; exact (hff i hi).2
      · simp [hi]; exact ⟨by decide⟩
    · simp; unfold maxLen at hm; omega

end Go.Proofs.Yteikihidblcljaa

/- Slices that came in, opened, with what their room is. -/
namespace Go.Proofs.Yteikihidblcljaa
open Go.ChangeShapes Go.WideShapes Go.ChangeAt Go.RowKit

/-- A slice's length and room. -/
structure Room (a : Option Addr) (len cap : Nat) : Prop where
  le : len ≤ cap
  max : cap ≤ 9223372036854775807
  nil : a = none → cap = 0

theorem open_room {H : Type} {enc : TypeId × Value → H} {P : Program} {w : World} {spare : Nat → Bool} {held : Bool} {t e : TypeId} {a : Option Addr} {len cap : Nat} {d : DataW H} {ps : List MemPlace}
    (ht : P.underlying t = some (.slice e)) (hc : P.cellsOf e = 1) (h : DataW.Trod enc P w 0 spare held t (.slice a len cap) d ps) : Room a len cap := by
  obtain ⟨fuel, hf⟩ := h
  simp only [Value.cells] at hf
  rcases Go.Deep.open_slice1 ht hc hf with ⟨hcs, _⟩ | ⟨x, l, c, m, n, V, D, Pl, hcs, _, hl, hm, hmm, _, hx⟩
  · simp at hcs
    obtain ⟨rfl, rfl, rfl⟩ := hcs
    exact ⟨Nat.le_refl _, by decide, fun _ => rfl⟩
  · simp at hcs
    obtain ⟨rfl, rfl, rfl⟩ := hcs
    exact ⟨hl, Nat.le_trans hm (by unfold maxLen; decide), fun e => by cases e⟩

/-- A slice of ints. -/
structure Ins (w : World) (a : Option Addr) (l : List Int) : Prop where
  cell : ∀ k, k < l.length → ∃ b o, a = some ⟨b, o, none⟩ ∧ w.cell? ⟨b, o + k, none⟩ = some (.int .i64 (l.getD k 0))
  wf : ∀ k, -9223372036854775808 ≤ l.getD k 0 ∧ l.getD k 0 ≤ 9223372036854775807
  len : l.length ≤ 9223372036854775807

theorem open_intl {H : Type} {enc : TypeId × Value → H} {P : Program} {w : World} {spare : Nat → Bool} {held : Bool} {t e : TypeId} {a : Option Addr} {len cap : Nat} {d : DataW H} {ps : List MemPlace}
    (ht : P.underlying t = some (.slice e)) (he : P.underlying e = some (.int .i64)) (hc : P.cellsOf e = 1) (h : DataW.Trod enc P w 0 spare held t (.slice a len cap) d ps) :
    ∃ l : List Int, len = l.length ∧ Ins w a l := by
  obtain ⟨fuel, hf⟩ := h
  simp only [Value.cells] at hf
  rcases Go.Deep.open_slice1 ht hc hf with ⟨hcs, _⟩ | ⟨x, l, c, m, n, V, D, Pl, hcs, _, hl, hm, hmm, _, hx⟩
  · simp at hcs
    obtain ⟨rfl, rfl, rfl⟩ := hcs
    exact ⟨[], rfl, { cell := fun k h => by simp at h, wf := fun i => by simp, len := by simp }⟩
  · simp at hcs
    obtain ⟨rfl, rfl, rfl⟩ := hcs
    have hle : len ≤ m := by rw [hmm]; split <;> omega
    have hb : ∀ i, i < len → ∃ b, V i = .int .i64 b ∧ (-9223372036854775808 ≤ b ∧ b ≤ 9223372036854775807) := fun i hi => by
      obtain ⟨b, h1, _, h2⟩ := DataW.trod_int he (hx i (by omega)).2
      simp at h1
      refine ⟨b, h1, ?_⟩
      have h3 : (IntKind.i64).min = -9223372036854775808 := by decide
      have h4 : (IntKind.i64).max = 9223372036854775807 := by decide
      simp only [Lit.wf, Bool.and_eq_true, decide_eq_true_eq, h3, h4] at h2
      exact h2
    obtain ⟨f, hff⟩ := Go.Deep.choose_lt hb
    obtain ⟨b, o, s⟩ := x
    have hs : ∀ i, i < len → w.cell? (Addr.add ⟨b, o, s⟩ i) = some (.int .i64 (f i)) := fun i hi => by rw [(hx i (by omega)).1, (hff i hi).1]
    refine ⟨(List.range len).map f, by simp, { cell := ?_, wf := ?_, len := ?_ }⟩
    · intro i hi
      simp at hi
      have hsp : s = none := by
        have := hs 0 (by omega)
        simpa [Addr.add] using World.cell?_spot this
      subst hsp
      refine ⟨b, o, rfl, ?_⟩
      have h1 := hs i hi
      have h2 : (Addr.add ⟨b, o, none⟩ i) = ⟨b, o + i, none⟩ := by
        by_cases h0 : i = 0 <;> simp [Addr.add, h0]
      rw [← h2, h1]
      simp [hi]
    · intro i
      by_cases hi : i < len
      · simp [hi]; exact (hff i hi).2
      · simp [hi]
    · simp; unfold maxLen at hm; omega

end Go.Proofs.Yteikihidblcljaa

/- AccOrder's list in another order: the walk of tenorlaw3.shuffled. -/
namespace Go.Proofs.Yteikihidblcljaa
open Go.RowKit
set_option linter.unusedSimpArgs false
set_option linter.unusedVariables false

/-- A row of floats of the call's own: its first cells are the list m. -/
structure FRow (w : World) (g cap : Nat) (m : List Nat) : Prop where
  le : m.length ≤ cap
  max : cap ≤ 9223372036854775807
  row : ∃ J : Nat → Value, w.rowIs g 28 cap (fun i => if i < m.length then .float .f64 (m.getD i 0) else J i)
  wf : ∀ i, F64 (m.getD i 0)
theorem FRow.lt {w : World} {g cap : Nat} {m : List Nat} (h : FRow w g cap m) : g < w.heap.size := by
  obtain ⟨J, hr⟩ := h.row
  exact World.rowIs.lt hr
theorem FRow.frozen {w : World} {g cap : Nat} {m : List Nat} (h : FRow w g cap m) (i : Nat) : w.frozen? ⟨g, i, none⟩ = false := by
  obtain ⟨J, hr⟩ := h.row
  exact World.rowIs.frozen hr i
theorem FRow.cell {w : World} {g cap : Nat} {m : List Nat} (h : FRow w g cap m) (i : Nat) (hi : i < m.length) : w.cell? ⟨g, i, none⟩ = some (.float .f64 (m.getD i 0)) := by
  obtain ⟨J, hr⟩ := h.row
  have := World.rowIs.cell hr (Nat.lt_of_lt_of_le hi h.le)
  rw [if_pos hi] at this
  exact this
theorem FRow.fls {w : World} {g cap : Nat} {m : List Nat} (h : FRow w g cap m) : Fls w (some ⟨g, 0, none⟩) m where
  nil := fun e => by cases e
  cell := fun b o v e i hi => by cases e; exact ⟨rfl, by rw [Nat.zero_add]; exact h.cell i hi⟩
  wf := h.wf
  len := Nat.le_trans h.le h.max
theorem getD_set (m : List Nat) (i y j : Nat) (hi : i < m.length) : (m.set i y).getD j 0 = if j = i then y else m.getD j 0 := by
  simp only [List.getD_eq_getElem?_getD, List.getElem?_set]
  by_cases h : i = j
  · subst h; simp [hi]
  · have : ¬ j = i := fun e => h e.symm
    simp [h, this]
theorem FRow.set {w : World} {g cap : Nat} {m : List Nat} (h : FRow w g cap m) (i y : Nat) (hi : i < m.length) (hy : F64 y) : FRow (w.setCell ⟨g, i, none⟩ (.float .f64 y)) g cap (m.set i y) where
  le := by rw [List.length_set]; exact h.le
  max := h.max
  row := by
    obtain ⟨J, hr⟩ := h.row
    refine ⟨J, (World.rowIs.set hr i (.float .f64 y)).congr fun j hj => ?_⟩
    rw [List.length_set]
    by_cases e : j = i
    · subst e; rw [if_pos rfl, if_pos hi, getD_set _ _ _ _ hi, if_pos rfl]
    · rw [if_neg e, getD_set _ _ _ _ hi, if_neg e]
  wf := fun j => by rw [getD_set _ _ _ _ hi]; split; exact hy; exact h.wf j
theorem FRow.drew {w : World} {g cap : Nat} {m : List Nat} (h : FRow w g cap m) : FRow w.drew g cap m := ⟨h.le, h.max, h.row, h.wf⟩

/-- A list of floats as cells. -/
theorem FRow.of_own {w : World} {base n : Nat} {v : Value} {m : List Nat} (h : w.ownsRow base 28 1 v n (m.map (Value.float .f64))) (hw : ∀ i, F64 (m.getD i 0)) (h0 : v ≠ .slice none 0 0) :
    ∃ g cap, v = .slice (some ⟨g, 0, none⟩) m.length cap ∧ base ≤ g ∧ FRow w g cap m := by
  obtain ⟨hl, h | ⟨g, cap, cur, rfl, hg, hh, hn, hc, hs, ht⟩⟩ := h
  · exact absurd h.1 h0
  rw [List.length_map, Nat.mul_one] at hl
  subst hl
  rw [Nat.mul_one] at hs ht
  refine ⟨g, cap, rfl, hg, hn, Nat.le_trans hc (by unfold maxLen; decide), ⟨fun i => cur.getD i undef, cur, hh, hs, fun i hi => ?_⟩, hw⟩
  show cur[i]? = some (if i < m.length then Value.float FloatKind.f64 (m.getD i 0) else cur.getD i undef)
  by_cases e : i < m.length
  · rw [if_pos e]
    have := congrArg (fun l : List Value => l[i]?) ht
    simp only [List.getElem?_take_of_lt e, List.getElem?_map] at this
    rw [← Array.getElem?_toList, this]
    simp [List.getElem?_eq_getElem e]
  · rw [if_neg e]
    rw [Array.getD_eq_getD_getElem?, Array.getElem?_eq_getElem (by omega)]
    rfl

theorem swap_perm (m : List Nat) (i j : Nat) (hi : i < m.length) (hj : j < m.length) : ((m.set i (m.getD j 0)).set j (m.getD i 0)).Perm m := by
  have := List.set_set_perm hi hj
  simpa [List.getD_eq_getElem?_getD, List.getElem?_eq_getElem hi, List.getElem?_eq_getElem hj] using this
theorem zS_perm {l m : List Nat} (h : l.Perm m) : zS l = zS m ∧ uS l = uS m ∧ dS l = dS m := by
  induction h with
  | nil => exact ⟨rfl, rfl, rfl⟩
  | cons x _ ih => exact ⟨congrArg (aZ x + ·) ih.1, by unfold uS at *; simp only [List.any_cons]; rw [ih.2.1], by unfold dS at *; simp only [List.any_cons]; rw [ih.2.2]⟩
  | swap x y l =>
    refine ⟨?_, ?_, ?_⟩
    · show aZ y + (aZ x + zS l) = aZ x + (aZ y + zS l)
      omega
    · unfold uS; simp only [List.any_cons]; rw [← Bool.or_assoc, Bool.or_comm (upB y), Bool.or_assoc]
    · unfold dS; simp only [List.any_cons]; rw [← Bool.or_assoc, Bool.or_comm (dnB y), Bool.or_assoc]
  | trans _ _ a b => exact ⟨a.1.trans b.1, a.2.1.trans b.2.1, a.2.2.trans b.2.2⟩

theorem place_mod (x : Int) (n : Nat) (hn : 0 < n) (hn2 : n ≤ 9223372036854775807 / 2) : ∃ K : Nat, K < n ∧ (x.tmod n + n).tmod n = (K : Int) ∧ -(n : Int) < x.tmod n ∧ x.tmod n < n := by
  have hp : (0 : Int) < n := by omega
  have h2 : x.tmod n < n := Int.tmod_lt_of_pos x hp
  have h1 : -(n : Int) < x.tmod n := by
    have h3 := Int.tmod_lt_of_pos (-x) hp
    rw [Int.neg_tmod] at h3
    omega
  refine ⟨((x.tmod n + n).tmod n).toNat, ?_, ?_, h1, h2⟩
  · have h3 : 0 ≤ x.tmod n + n := by omega
    have h4 := Int.tmod_lt_of_pos (x.tmod n + n) (show (0 : Int) < n by omega)
    have h5 := Int.tmod_nonneg n h3
    omega
  · have h3 : 0 ≤ x.tmod n + n := by omega
    have h5 := Int.tmod_nonneg n h3
    omega

theorem w_info8 : (Try.prog.info? 28).map (fun i => (i.zero, i.size, i.bytes)) = some (some (.float .f64 0), 1, 8) := by kernel_rfl

end Go.Proofs.Yteikihidblcljaa

/- The walk of tenorlaw3.shuffled. -/
namespace Go.Proofs.Yteikihidblcljaa
open Go.RowKit
set_option linter.unusedSimpArgs false
set_option linter.unusedVariables false

theorem below_grown {B : Nat} {a w w' : World} {row : Option Nat} (h : Below B a w) (g : w.grownBy w' row) (hr : ∀ k, row = some k → B ≤ k) (hB : B ≤ w.heap.size) : Below B a w' :=
  ⟨g.os.trans h.os, g.tape.trans h.tape, g.output.trans h.output, Nat.le_trans h.size g.size, fun k hk => (g.block k (by omega) (fun e => by have := hr k e.symm; omega)).trans (h.block k hk)⟩

/-- A slice with a list's floats in another order, in memory of its own. -/
def ShRet (l : List Nat) (w : World) (e : Ending) (w' : World) : Prop :=
  ∃ a c m, e = .returned (.slice a l.length c) ∧ m.Perm l ∧ Fls w' a m ∧ Below w.heap.size w w'
theorem fls_nil (w : World) : Fls w none [] := { nil := fun _ => rfl, cell := fun b o v h => by simp at h, wf := fun i => ⟨by simp⟩, len := by simp }
theorem floats_one (l : List Nat) : ∀ u ∈ l.map (Value.float .f64), u.oneCell' = true := by
  intro u hu
  obtain ⟨x, _, rfl⟩ := List.mem_map.1 hu
  rfl
theorem Fls.news {w : World} {b o : Nat} {l : List Nat} (h : Fls w (Option.some ⟨b, o, none⟩) l) (j : Nat) (u : Value) (hu : (l.map (Value.float .f64))[j]? = Option.some u) : w.cell? ((⟨b, o, none⟩ : Addr).add j) = Option.some u := by
  rw [List.getElem?_map] at hu
  by_cases e : j < l.length
  · rw [List.getElem?_eq_getElem e] at hu
    have h1 := (h.cell b o none rfl j e).2
    rw [show (⟨b, o, none⟩ : Addr).add j = ⟨b, o + j, none⟩ by by_cases h0 : j = 0 <;> simp [Addr.add, h0], h1]
    simp at hu
    rw [← hu]
    simp [List.getD_eq_getElem?_getD, List.getElem?_eq_getElem e]
  · rw [List.getElem?_eq_none (by omega)] at hu
    cases hu

@[go_sem] theorem run_store_float (P : Program) (w : World) (a : Addr) (m : Mode) (k : FloatKind) (x : Nat) : (store a (.float k x) m).run P w = stored P w a (.float k x) m := run_store P w a _ m rfl
theorem cell_lt {w : World} {b i : Nat} {v : Value} (h : w.cell? ⟨b, i, none⟩ = some v) : b < w.heap.size := by
  by_cases e : b < w.heap.size
  · exact e
  · unfold World.cell? at h
    rw [Array.getElem?_eq_none (Nat.le_of_not_lt e)] at h
    simp at h

end Go.Proofs.Yteikihidblcljaa

/- AccOrder's walk. -/
namespace Go.Proofs.Yteikihidblcljaa
open Go.RowKit
set_option linter.unusedSimpArgs false
set_option linter.unusedVariables false

theorem F64_overA (z : Int) (up dn : Bool) (n : Nat) : F64 (overA z up dn n) := by
  unfold overA
  split
  · exact ⟨by decide⟩
  · split
    · exact ⟨by decide⟩
    · split
      · exact ⟨by decide⟩
      · unfold nearZ madeN
        have := Nat.min_le_right (rnd (z.natAbs / n) (-2148) (nz (z.natAbs % n))) 9218868437227405312
        split
        · exact ⟨by omega⟩
        · exact ⟨by omega⟩

theorem asame_self (z : Int) (u d : Bool) : asame z u d z u d = true := by unfold asame; simp

end Go.Proofs.Yteikihidblcljaa

/- Whole numbers are added exactly: the law behind AccWhole. -/
namespace Go.Proofs.Yteikihidblcljaa
open Go.RowKit
set_option linter.unusedSimpArgs false
set_option linter.unusedVariables false

/-- A sum's Value is the sum, rounded. -/
theorem rk_overA (z : Int) : rk (overA z false false 1) = rz (-2148) z := by
  unfold overA nearZ
  simp only [Bool.false_and, Bool.false_eq_true, if_false, Nat.div_one, Nat.mod_one]
  rw [show nz 0 = false from rfl, madeN_word, (rk_word _ _ (Nat.min_le_right _ _)).1]
  unfold rz
  by_cases h : z < 0
  · simp [h]
  · simp [h]
theorem nn_overA (z : Int) (n : Nat) : nn (overA z false false n) = false := by
  unfold overA nearZ
  simp only [Bool.false_and, Bool.false_eq_true, if_false]
  rw [madeN_word]
  exact (rk_word _ _ (Nat.min_le_right _ _)).2.1
theorem rz_scale (k : Nat) (e z : Int) (he : e ≤ -1074) : rz (e - k) (z * ((2 ^ k : Nat) : Int)) = rz e z := by
  by_cases h0 : z = 0
  · subst h0
    rw [Int.zero_mul, rz_zero _ (by omega), rz_zero _ he]
  have h1 : (z * ((2 ^ k : Nat) : Int)).natAbs = z.natAbs * 2 ^ k := by rw [Int.natAbs_mul, Int.natAbs_natCast]
  have h2 : rnd (z.natAbs * 2 ^ k) (e - k) false = rnd z.natAbs e false := rnd_scale _ _ _ (by omega)
  have hp : (0 : Int) < ((2 ^ k : Nat) : Int) := by have := Nat.pow_pos (n := k) (show 0 < 2 by decide); omega
  unfold rz
  rw [h1, h2]
  by_cases h : z < 0
  · rw [if_pos h, if_pos (Int.mul_neg_of_neg_of_pos h hp)]
  · rw [if_neg h, if_neg (Int.not_lt.2 (Int.mul_nonneg (by omega) (by omega)))]

theorem wh_rk {x y : Nat} (h : SV x = SV y) : rk x = rk y := by
  have a := SV_le (x := x) (y := y)
  have b := SV_le (x := y) (y := x)
  omega
theorem wh_SV {x y : Nat} (h : rk x = rk y) : SV x = SV y := by
  have a := SV_le (x := x) (y := y)
  have b := SV_le (x := y) (y := x)
  omega

/-- A float that is a whole number. -/
structure Whl (x : Nat) (n : Int) : Prop where
  wf : F64 x
  fn : fin x = true
  sv : SV x = n * (U1 : Int)
theorem Whl.nn {x : Nat} {n : Int} (h : Whl x n) : nn x = false := nn_fin _ h.fn
theorem Whl.cn {x : Nat} {n : Int} (h : Whl x n) : cn x = x := cn_of x h.nn
theorem Whl.of_int (n : Int) (h1 : n.natAbs ≤ 9007199254740992) : Whl (floatOfInt .f64 n) n :=
  have h := int_float n (by omega) (by omega)
  ⟨h.2.2.1, h.2.1, h.1⟩
theorem Whl.zero : Whl 0 0 := ⟨⟨by decide⟩, by decide +kernel, by rw [Int.zero_mul]; decide +kernel⟩
theorem Whl.of_rk {x : Nat} {n : Int} (hx : F64 x) (hn : n.natAbs ≤ 9007199254740992) (h : rk x = rz (-1074) (n * (U1 : Int))) : Whl x n := by
  have hi := Whl.of_int n hn
  rw [← hi.sv, rz_SV _ hi.fn] at h
  exact ⟨hx, (rk_fin x).2 (by rw [h]; exact (rk_fin _).1 hi.fn), by rw [wh_SV h, hi.sv]⟩
theorem Whl.add {x y : Nat} {a b : Int} (h : Whl x a) (k : Whl y b) (hn : (a + b).natAbs ≤ 9007199254740992) : Whl (fadd x y) (a + b) := by
  refine Whl.of_rk (F64_fadd _ _) hn ?_
  rw [(rk_fadd x y h.wf k.wf h.fn k.fn).1, h.sv, k.sv, Int.add_mul]
theorem Whl.sub {x y : Nat} {a b : Int} (h : Whl x a) (k : Whl y b) (hn : (a - b).natAbs ≤ 9007199254740992) : Whl (fsub x y) (a - b) := by
  refine Whl.of_rk (F64_fsub _ _) hn ?_
  rw [(rk_fsub x y h.wf k.wf h.fn k.fn).1, h.sv, k.sv, Int.sub_mul]
theorem Whl.eq {x y : Nat} {n : Int} (h : Whl x n) (k : Whl y n) : (FloatKind.f64.format.order x y == some .eq) = true := by
  rw [feq x y h.wf k.wf, h.nn, k.nn, wh_rk (h.sv.trans k.sv.symm)]
  simp
theorem Whl.aZ {x : Nat} {n : Int} (h : Whl x n) : aZ x = n * (U1 : Int) * (U1 : Int) := by
  have := h.sv
  unfold Go.Proofs.Yteikihidblcljaa.aZ
  rw [h.fn, if_pos rfl, this]

def sI : List Int → Int
  | [] => 0
  | n :: l => n + sI l
def aI : List Int → Nat
  | [] => 0
  | n :: l => n.natAbs + aI l
theorem sI_cons (n : Int) (l : List Int) : sI (n :: l) = n + sI l := rfl
theorem sI_le : ∀ l, (sI l).natAbs ≤ aI l
  | [] => Nat.le_refl _
  | n :: l => by
    have := sI_le l
    unfold sI aI
    omega
theorem sI_snoc : ∀ (l : List Int) (n : Int), sI (l ++ [n]) = sI l + n ∧ aI (l ++ [n]) = aI l + n.natAbs
  | [], n => by simp [sI, aI]
  | m :: l, n => by
    have := sI_snoc l n
    simp only [List.cons_append, sI, aI]
    omega
theorem sI_append : ∀ (l m : List Int), sI (l ++ m) = sI l + sI m ∧ aI (l ++ m) = aI l + aI m
  | [], m => by simp [sI, aI]
  | n :: l, m => by
    have := sI_append l m
    simp only [List.cons_append, sI, aI]
    omega

/-- A list of floats that are whole numbers. -/
def FI (n : Int) : Nat := floatOfInt .f64 n
theorem left_whl : ∀ (l : List Int) (s : Nat) (a : Int), Whl s a → a.natAbs + aI l ≤ 9007199254740992 → Whl ((l.map FI).foldl (fun s x => fadd s (cn x)) s) (a + sI l)
  | [], s, a, h, _ => by simpa [sI] using h
  | n :: l, s, a, h, hb => by
    unfold aI at hb
    have h1 := Whl.of_int n (by omega)
    have h2 := h.add h1 (by omega)
    have := left_whl l _ _ h2 (by omega)
    rw [List.map_cons, List.foldl_cons]
    unfold FI at *
    rw [h1.cn]
    rw [show a + sI (n :: l) = a + n + sI l by rw [sI_cons]; omega]
    exact this
theorem leftF_whl (l : List Int) (h : aI l ≤ 9007199254740992) : Whl (leftF (l.map FI)) (sI l) := by
  have := left_whl l 0 0 Whl.zero (by simpa using h)
  rwa [Int.zero_add] at this
theorem pairF_whl : ∀ (n : Nat) (l : List Int), l.length ≤ n → aI l ≤ 9007199254740992 → Whl (pairF (n + 1) (l.map FI)) (sI l) := by
  intro n
  induction n with
  | zero =>
    intro l hl _
    obtain rfl : l = [] := List.length_eq_zero_iff.1 (by omega)
    exact Whl.zero
  | succ n ih =>
    intro l hl ha
    unfold pairF
    rw [List.length_map]
    by_cases h0 : l.length = 0
    · rw [if_pos h0]
      obtain rfl : l = [] := List.length_eq_zero_iff.1 h0
      exact Whl.zero
    rw [if_neg h0]
    by_cases h1 : l.length = 1
    · rw [if_pos h1]
      obtain ⟨x, rfl⟩ := List.length_eq_one_iff.1 h1
      unfold aI at ha
      have hx := Whl.of_int x (by omega)
      show Whl (cn (FI x)) (sI [x])
      unfold FI
      rw [hx.cn, show sI [x] = x by simp [sI]]
      exact hx
    · rw [if_neg h1]
      have e := List.take_append_drop (l.length / 2) l
      have hs := sI_append (l.take (l.length / 2)) (l.drop (l.length / 2))
      rw [e] at hs
      have b1 := ih (l.take (l.length / 2)) (by rw [List.length_take]; omega) (by omega)
      have b2 := ih (l.drop (l.length / 2)) (by rw [List.length_drop]; omega) (by omega)
      rw [← List.map_take, ← List.map_drop, hs.1]
      have := sI_le l
      exact b1.add b2 (by rw [← hs.1]; omega)
theorem kahS_whl {p : Nat × Nat} {a n : Int} {x : Nat} (h1 : Whl p.1 a) (h2 : Whl p.2 0) (hx : Whl x n) (hb : a.natAbs + n.natAbs ≤ 9007199254740992) : Whl (kahS p x).1 (a + n) ∧ Whl (kahS p x).2 0 := by
  have ht := h1.add hx (by omega)
  refine ⟨ht, ?_⟩
  unfold kahS
  by_cases hg : gmB p.1 x = true
  · simp only [hg, if_true]
    have h3 := (h1.sub ht (by omega)).add hx (by omega)
    have := h2.add h3 (by omega)
    rwa [show 0 + (a - (a + n) + n) = 0 by omega] at this
  · simp only [Bool.not_eq_true] at hg
    simp only [hg, Bool.false_eq_true, if_false]
    have h3 := (hx.sub ht (by omega)).add h1 (by omega)
    have := h2.add h3 (by omega)
    rwa [show 0 + (n - (a + n) + a) = 0 by omega] at this
theorem kah_whl : ∀ (l : List Int) (p : Nat × Nat) (a : Int), Whl p.1 a → Whl p.2 0 → a.natAbs + aI l ≤ 9007199254740992 →
    Whl ((l.map FI).foldl (fun p x => kahS p (cn x)) p).1 (a + sI l) ∧ Whl ((l.map FI).foldl (fun p x => kahS p (cn x)) p).2 0
  | [], p, a, h, h', _ => by simpa [sI] using ⟨h, h'⟩
  | n :: l, p, a, h, h', hb => by
    unfold aI at hb
    have h1 := Whl.of_int n (by omega)
    have h2 := kahS_whl h h' h1 (by omega)
    have := kah_whl l _ _ h2.1 h2.2 (by omega)
    rw [List.map_cons, List.foldl_cons]
    unfold FI at *
    rw [h1.cn]
    rw [show a + sI (n :: l) = a + n + sI l by rw [sI_cons]; omega]
    exact this
theorem kahF_whl (l : List Int) (h : aI l ≤ 9007199254740992) : Whl (kahF (l.map FI)) (sI l) := by
  have h1 := kah_whl l (0, 0) 0 Whl.zero Whl.zero (by simpa using h)
  rw [Int.zero_add] at h1
  have := h1.1.add h1.2 (by have := sI_le l; omega)
  rw [Int.add_zero] at this
  exact this
theorem zS_whl : ∀ (l : List Int), aI l ≤ 9007199254740992 → zS (l.map FI) = sI l * (U1 : Int) * (U1 : Int) ∧ uS (l.map FI) = false ∧ dS (l.map FI) = false
  | [], _ => ⟨by simp [sI, zS], rfl, rfl⟩
  | n :: l, hb => by
    unfold aI at hb
    have h1 := Whl.of_int n (by omega)
    have h2 := zS_whl l (by omega)
    have h3 := flagB_fin _ h1.fn
    refine ⟨?_, ?_, ?_⟩
    · show aZ (FI n) + zS (l.map FI) = _
      unfold FI at *
      rw [h1.aZ, h2.1, sI_cons, Int.add_mul, Int.add_mul]
    · unfold uS at *
      simp only [List.map_cons, List.any_cons]
      rw [h2.2.1]; unfold FI; rw [h3.1]; rfl
    · unfold dS at *
      simp only [List.map_cons, List.any_cons]
      rw [h2.2.2]; unfold FI; rw [h3.2]; rfl
theorem sum_whl (l : List Int) (h : aI l ≤ 9007199254740992) : Whl (overA (zS (l.map FI)) (uS (l.map FI)) (dS (l.map FI)) 1) (sI l) := by
  obtain ⟨h1, h2, h3⟩ := zS_whl l h
  rw [h1, h2, h3]
  refine Whl.of_rk (F64_overA _ _ _ _) (Nat.le_trans (sI_le l) h) ?_
  rw [rk_overA]
  have h4 := rz_scale dp (-1074) (sI l * (U1 : Int)) (by decide)
  rw [show (-1074 - (dp : Int)) = -2148 by decide, show ((2 ^ dp : Nat) : Int) = (U1 : Int) from rfl] at h4
  exact h4

end Go.Proofs.Yteikihidblcljaa

/- A slice of structs that came in, opened: each field's cell, whatever the number of fields. -/
namespace Go.Proofs.Yteikihidblcljaa
open Go.ChangeShapes Go.WideShapes Go.ChangeAt Go.RowKit

/-- Each field of each of the first len elements (k fields an element) is a cell. -/
structure Rws (w : World) (a : Option Addr) (len k : Nat) (V : Nat → Nat → Value) : Prop where
  cell : ∀ i j, i < len → j < k → ∃ b o, a = some ⟨b, o, none⟩ ∧ w.cell? ⟨b, o + (i * k + j), none⟩ = some (V i j)
theorem Rws.belowK {w w' : World} {a : Option Addr} {len k : Nat} {V : Nat → Nat → Value} (h : Rws w a len k V) (hb : Below w.heap.size w w') : Rws w' a len k V :=
  ⟨fun i j hi hj => by
    obtain ⟨b, o, h1, h2⟩ := h.cell i j hi hj
    exact ⟨b, o, h1, by rw [hb.cell (p := ⟨b, o + (i * k + j), none⟩) (World.block_lt_of_cell? _ _ h2), h2]⟩⟩
theorem Rws.addr {w : World} {a : Option Addr} {len k : Nat} {V : Nat → Nat → Value} (h : Rws w a len k V) (hl : 0 < len) (hk : 0 < k) : ∃ b o, a = some ⟨b, o, none⟩ ∧ ∀ i j, i < len → j < k → w.cell? ⟨b, o + (i * k + j), none⟩ = some (V i j) := by
  obtain ⟨b, o, h1, _⟩ := h.cell 0 0 hl hk
  refine ⟨b, o, h1, fun i j hi hj => ?_⟩
  obtain ⟨b', o', h2, h3⟩ := h.cell i j hi hj
  rw [h1] at h2
  cases h2
  exact h3
theorem Rws.empty (w : World) (a : Option Addr) (k : Nat) (V : Nat → Nat → Value) : Rws w a 0 k V := ⟨fun _ _ h => by omega⟩

section
variable {H : Type} {enc : TypeId × Value → H} {P : Program} {w : World} {spare : Nat → Bool} {held : Bool}
theorem open_rows {t e : TypeId} {fs : Array Field} {a : Option Addr} {len cap : Nat} {d : DataW H} {ps : List MemPlace}
    (ht : P.underlying t = some (.slice e)) (he : P.underlying e = some (.struct fs)) (hone : Go.Deep.oneCellFields P fs = true) (hC : P.cellsOf e = fs.size) (h : DataW.Trod enc P w 0 spare held t (.slice a len cap) d ps) :
    Room a len cap ∧ cap ≤ maxLen ∧ ∃ V : Nat → Nat → Value, Rws w a len fs.size V ∧ ∀ i, i < len → ∀ j f, fs[j]? = some f → ∃ n y, DataW.trod enc P w 0 spare held n f.type [V i j] = some y := by
  obtain ⟨fuel, hf⟩ := h
  simp only [Value.cells] at hf
  rcases Go.Deep.open_slice ht hf with ⟨hcs, _⟩ | ⟨x, l, c, m, n, D, Pl, hcs, _, hl, hm, hmm, _, hx⟩
  · simp at hcs
    obtain ⟨rfl, rfl, rfl⟩ := hcs
    exact ⟨⟨Nat.le_refl _, by decide, fun _ => rfl⟩, by decide, fun _ _ => undef, Rws.empty _ _ _ _, fun i hi => by omega⟩
  · simp at hcs
    obtain ⟨rfl, rfl, rfl⟩ := hcs
    have hle : len ≤ m := by rw [hmm]; split <;> omega
    refine ⟨⟨hl, Nat.le_trans hm (by unfold maxLen; decide), fun e => by cases e⟩, hm, ?_⟩
    obtain ⟨b, o, s⟩ := x
    have key : ∀ i, i < len → ∃ cs' : List Value, (∀ j, j < fs.size → w.cell? (Addr.add ⟨b, o, s⟩ (i * fs.size + j)) = some (cs'.getD j undef)) ∧ ∀ j f, fs[j]? = some f → ∃ n y, DataW.trod enc P w 0 spare held n f.type [cs'.getD j undef] = some y := fun i hi => by
      obtain ⟨cs', h1, h2⟩ := hx i (by omega)
      rw [hC] at h1
      obtain ⟨_, hlen, hat⟩ := World.cells?_some h1
      obtain ⟨xs, n', _, _, _, hxl, hfd⟩ := DataW.trod_struct he h2
      refine ⟨cs', fun j hj => ?_, fun j f hj => ?_⟩
      · rw [← Go.Deep.add_add, hat j hj]
        simp only [List.getD_eq_getElem?_getD, List.getElem?_eq_getElem (show j < cs'.length by omega), Option.getD_some]
      · obtain ⟨o1, o2⟩ := Go.Deep.hone_of hone j f hj
        have hlt : j < fs.size := (Array.getElem?_eq_some_iff.1 hj).1
        have h3 := hfd j f hj
        rw [o1, o2, Go.Deep.take1_drop cs' j undef (by omega)] at h3
        exact ⟨n', _, h3.trans (List.getElem?_eq_getElem (by omega))⟩
    obtain ⟨F, hF⟩ := Go.Deep.choose_lt key
    refine ⟨fun i j => (F i).getD j undef, ⟨fun i j hi hj => ?_⟩, fun i hi => (hF i hi).2⟩
    have h0 := (hF i hi).1 j hj
    have hs0 := (hF 0 (by omega)).1 0 (by omega)
    have hsp : s = none := by simpa [Addr.add] using World.cell?_spot hs0
    subst hsp
    refine ⟨b, o, rfl, ?_⟩
    have h2 : ∀ q, (Addr.add ⟨b, o, none⟩ q) = ⟨b, o + q, none⟩ := fun q => by
      by_cases hz : q = 0 <;> simp [Addr.add, hz]
    rw [← h2, h0]

theorem trod_i64 {base : Nat} {fuel : Nat} {t : TypeId} {v : Value} {x : DataW H × List MemPlace} (ht : P.underlying t = some (.int .i64)) (h : DataW.trod enc P w base spare held fuel t [v] = some x) :
    ∃ n : Int, v = .int .i64 n ∧ -9223372036854775808 ≤ n ∧ n ≤ 9223372036854775807 := by
  obtain ⟨b, h1, _, h2⟩ := DataW.trod_int ht h
  simp at h1
  refine ⟨b, h1, ?_⟩
  have h3 : (IntKind.i64).min = -9223372036854775808 := by decide
  have h4 : (IntKind.i64).max = 9223372036854775807 := by decide
  simp only [Lit.wf, Bool.and_eq_true, decide_eq_true_eq, h3, h4] at h2
  exact h2
end

end Go.Proofs.Yteikihidblcljaa

/- A table that came in (a kind, a slice of whole numbers, a slice of floats), opened. -/
namespace Go.Proofs.Yteikihidblcljaa
open Go.ChangeShapes Go.WideShapes Go.ChangeAt Go.RowKit

theorem open_table {H : Type} {enc : TypeId × Value → H} {P : Program} {w : World} {spare : Nat → Bool} {held : Bool} {r : Reach} {b0 : Nat} {t ti te : TypeId} {f0 f1 f2 : Field} {v : Value} {d : DataW H} {p : List MemPlace}
    (hs : P.underlying t = some (.struct #[f0, f1, f2])) (hone : Go.Deep.oneCellFields P #[f0, f1, f2] = true) (hC : P.cellsOf t = 3)
    (h0 : P.underlying f0.type = some (.int .i64)) (h1 : P.underlying f1.type = some (.slice ti)) (hti : P.underlying ti = some (.int .i64)) (c1 : P.cellsOf ti = 1)
    (h2 : P.underlying f2.type = some (.slice te)) (hte : P.underlying te = some (.float .f64)) (c2 : P.cellsOf te = 1)
    (hv : Value.okWide P w r b0 t v) (h : DataW.Trod enc P w 0 spare held t v d p) :
    ∃ (kind : Int) (ax : Option Addr) (X : List Int) (cx : Nat) (ay : Option Addr) (Y : List Nat) (cy : Nat), v = .agg #[.int .i64 kind, .slice ax X.length cx, .slice ay Y.length cy] ∧
      (-9223372036854775808 ≤ kind ∧ kind ≤ 9223372036854775807) ∧ Ins w ax X ∧ Room ax X.length cx ∧ Fls w ay Y ∧ Room ay Y.length cy := by
  obtain ⟨v0, v1, v2, y0, y1, y2, n, rfl, rfl, rfl, t0, t1, t2⟩ := Go.Joins.open_agg3 hs hone hC hv h
  obtain ⟨kind, rfl, k1, k2⟩ := trod_i64 h0 t0
  obtain ⟨ax, lx, cx, e1⟩ := Go.Joins.slice_form h1 t1
  obtain ⟨ay, ly, cy, e2⟩ := Go.Joins.slice_form h2 t2
  simp only [List.cons.injEq, and_true] at e1 e2
  subst e1
  subst e2
  have T1 : DataW.Trod enc P w 0 spare held f1.type (.slice ax lx cx) y1.1 y1.2 := ⟨n, by simpa [Value.cells] using t1⟩
  have T2 : DataW.Trod enc P w 0 spare held f2.type (.slice ay ly cy) y2.1 y2.2 := ⟨n, by simpa [Value.cells] using t2⟩
  have r1 := open_room h1 c1 T1
  have r2 := open_room h2 c2 T2
  obtain ⟨X, rfl, ix⟩ := open_intl h1 hti c1 T1
  obtain ⟨Y, rfl, fy⟩ := open_floats h2 hte c2 T2
  exact ⟨kind, ax, X, cx, ay, Y, cy, rfl, ⟨k1, k2⟩, ix, r1, fy, r2⟩

end Go.Proofs.Yteikihidblcljaa
