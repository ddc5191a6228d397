/- The walk of life's Roll: what it keeps while it goes through the days. -/
import Derived.Test.YteikihidblcljaaQgC
namespace Go.Proofs.Yteikihidblcljaa
open Go.RowKit
set_option linter.unusedSimpArgs false
set_option linter.unusedVariables false

theorem fres_quoQ {x y : Nat} (hx : F64 x) (hy : F64 y) (fx : fin x = true) (fy : fin y = true) (hz : mg y ≠ 0) (w : World) : fres .quo x y w = fdiv x y := by
  have h := cn_fdiv x y w hx hy
  rw [cn_of _ (nn_fin _ fx), cn_of _ (nn_fin _ fy)] at h
  exact raw_of_cn h (nnDiv hx hy (nn_fin _ fx) fy hz)
theorem fcnt_quoQ {x y : Nat} (hx : F64 x) (hy : F64 y) (fx : fin x = true) (fy : fin y = true) (hz : mg y ≠ 0) (w : World) : w.drewN (fcnt .quo x y) = w := by
  have h : fcnt .quo x y = 0 := by
    unfold fcnt
    split
    · rfl
    · rename_i h
      have h1 := (fres_none w h).2
      rw [fres_quoQ hx hy fx fy hz w, nnDiv hx hy (nn_fin _ fx) fy hz] at h1
      exact absurd h1 (by decide)
  rw [h]
  rfl
theorem okQ_eq {f : Nat} (hf : F64 f) (hn : nn f = false) : (FloatKind.f64.format.order f 0 == some .eq) = decide (mg f = 0) := by
  have z : nn 0 = false ∧ rk 0 = 0 := by decide +kernel
  rw [feq f 0 hf ⟨by decide⟩, hn, z.1, z.2]
  unfold rk
  cases ng f <;> simp
theorem setC_row {w : World} {b : Nat} {ba kind : Int} {ax : Option Addr} {nx cx : Nat} {ay : Option Addr} {ny cy : Nat} (h : BoxC w b ba kind ax nx cx ay ny cy) (ba' kind' : Int) (ax' : Option Addr) (nx' cx' : Nat) (ay' : Option Addr) (ny' cy' : Nat) :
    BoxC ((((w.setCell ⟨b, 0, none⟩ (.int .i64 ba')).setCell ⟨b, 1, none⟩ (.int .i64 kind')).setCell ⟨b, 2, none⟩ (.slice ax' nx' cx')).setCell ⟨b, 3, none⟩ (.slice ay' ny' cy')) b ba' kind' ax' nx' cx' ay' ny' cy' := by
  unfold BoxC at *
  rw [set_rowQ (set_rowQ (set_rowQ (set_rowQ h)))]
  rfl
theorem setC_two {w : World} {b : Nat} {ba kind : Int} {ax : Option Addr} {nx cx : Nat} {ay : Option Addr} {ny cy : Nat} (h : BoxC w b ba kind ax nx cx ay ny cy) (ax' : Option Addr) (nx' cx' : Nat) (ay' : Option Addr) (ny' cy' : Nat) :
    BoxC ((w.setCell ⟨b, 2, none⟩ (.slice ax' nx' cx')).setCell ⟨b, 3, none⟩ (.slice ay' ny' cy')) b ba kind ax' nx' cx' ay' ny' cy' := by
  unfold BoxC at *
  rw [set_rowQ (set_rowQ h)]
  rfl
/-- A new box that is written at once. -/
theorem box_out (w : World) (ba kind : Int) :
    ∃ W, (((((w.alloc (.cells #[.int .i64 0, .int .i64 0, .slice none 0 0, .slice none 0 0] 82)).setCell ⟨w.heap.size, 0, none⟩ (.int .i64 ba)).setCell ⟨w.heap.size, 1, none⟩ (.int .i64 kind)).setCell ⟨w.heap.size, 2, none⟩ (.slice none 0 0)).setCell ⟨w.heap.size, 3, none⟩ (.slice none 0 0)) = W ∧
      BoxC W w.heap.size ba kind none 0 0 none 0 0 ∧ Below w.heap.size w W ∧ W.heap.size = w.heap.size + 1 := by
  obtain ⟨W1, h1, h2, h3⟩ := box_c w 0 0 none 0 0 none 0 0
  rw [h1]
  have e' : ∀ o, w.heap.size ≤ (⟨w.heap.size, o, none⟩ : Addr).block := fun o => Nat.le_refl _
  refine ⟨_, rfl, setC_row h2 _ _ _ _ _ _ _ _, (((h3.setCell (e' _) _).setCell (e' _) _).setCell (e' _) _).setCell (e' _) _, ?_⟩
  rw [← h1]
  simp [World.setCell]
theorem box_cc (w : World) (ba kind : Int) (ax : Option Addr) (nx cx : Nat) (ay : Option Addr) (ny cy : Nat) :
    ∃ W, ((w.alloc (.cells #[.int .i64 ba, .int .i64 kind, .slice ax nx cx, .slice ay ny cy] 82)).alloc (.cells #[.int .i64 0, .int .i64 0, .slice none 0 0, .slice none 0 0] 82)) = W ∧
      BoxC W w.heap.size ba kind ax nx cx ay ny cy ∧ BoxC W (w.heap.size + 1) 0 0 none 0 0 none 0 0 ∧ Below w.heap.size w W ∧ W.heap.size = w.heap.size + 2 := by
  refine ⟨_, rfl, ?_, ?_, (((Below.refl _ _).alloc (Nat.le_refl _) _).alloc (World.alloc_size_le _ _) _), by simp⟩
  · unfold BoxC World.alloc; (try simp [Array.getElem?_push, Array.getElem_push]); all_goals (try omega)
  · unfold BoxC World.alloc; simp [Array.getElem?_push, Array.getElem_push]

/-- The rows' lists. -/
def rwD (X : List Int) (k i : Nat) : List Int := (X.take i).drop k
def rwF (Y : List Nat) (x k i : Nat) : List Nat := ((Y.take i).drop k).map fun f => fdiv f x
theorem take_drop_step {α : Type} (l : List α) (d : α) {k i : Nat} (h : k ≤ i) (hi : i < l.length) : (l.take (i + 1)).drop k = (l.take i).drop k ++ [l.getD i d] := by
  rw [List.take_succ_eq_append_getElem hi, List.drop_append, List.length_take]
  have : k - min i l.length = 0 := by omega
  rw [this, List.drop_zero, List.getD_eq_getElem?_getD, List.getElem?_eq_getElem hi]; rfl
theorem take_drop_nil {α : Type} (l : List α) {k i : Nat} (h : i ≤ k) : (l.take i).drop k = [] := by
  rw [List.drop_eq_nil_iff, List.length_take]; omega
theorem rwD_len (X : List Int) {k i : Nat} (hi : i ≤ X.length) : (rwD X k i).length = i - k := by unfold rwD; rw [List.length_drop, List.length_take]; omega
theorem rwF_len (Y : List Nat) (x : Nat) {k i : Nat} (hi : i ≤ Y.length) : (rwF Y x k i).length = i - k := by unfold rwF; rw [List.length_map, List.length_drop, List.length_take]; omega

/-- What Roll keeps: rows of what is left so far; the box with both. -/
structure RlS (B : Nat) (w3 wr : World) (n kind : Int) (X : List Int) (Y : List Nat) (x k i : Nat) (aD : Option Addr) (cD : Nat) (aF : Option Addr) (cF : Nat) : Prop where
  rs : RS (B + 1) wr wr (.slice aD (i - k) cD) (i - k) ((rwD X k i).map (Value.int .i64)) (.slice aF (i - k) cF) (i - k) ((rwF Y x k i).map (Value.float .f64))
  bx : BoxC wr B n kind aD (i - k) cD aF (i - k) cF
  fr : Below B w3 wr
theorem RlS.skip {B : Nat} {w3 wr : World} {n kind : Int} {X : List Int} {Y : List Nat} {x k i : Nat} {aD : Option Addr} {cD : Nat} {aF : Option Addr} {cF : Nat} (h : RlS B w3 wr n kind X Y x k i aD cD aF cF) (hk : i < k) : RlS B w3 wr n kind X Y x k (i + 1) aD cD aF cF := by
  have e1 : rwD X k (i + 1) = rwD X k i := by unfold rwD; rw [take_drop_nil X (by omega), take_drop_nil X (by omega)]
  have e2 : rwF Y x k (i + 1) = rwF Y x k i := by unfold rwF; rw [take_drop_nil Y (by omega), take_drop_nil Y (by omega)]
  have e3 : i + 1 - k = i - k := by omega
  have h1 := h.rs
  have h2 := h.bx
  refine ⟨?_, ?_, h.fr⟩
  · rw [e1, e2, e3]; exact h1
  · rw [e3]; exact h2
theorem roll_wfD {X : List Int} (h : ∀ k, -9223372036854775808 ≤ X.getD k 0 ∧ X.getD k 0 ≤ 9223372036854775807) (k i : Nat) : ∀ j, -9223372036854775808 ≤ (rwD X k i).getD j 0 ∧ (rwD X k i).getD j 0 ≤ 9223372036854775807 := fun j => by
  unfold rwD
  rw [List.getD_eq_getElem?_getD, List.getElem?_drop, List.getElem?_take]
  split
  · have := h (k + j); rw [List.getD_eq_getElem?_getD] at this; exact this
  · exact ⟨by decide, by decide⟩
theorem roll_wfF (Y : List Nat) (x k i : Nat) : ∀ j, F64 ((rwF Y x k i).getD j 0) := fun j => by
  unfold rwF
  rw [List.getD_eq_getElem?_getD, List.getElem?_map]
  cases ((Y.take i).drop k)[j]? with
  | none => exact ⟨by show 0 < 18446744073709551616; decide⟩
  | some v => exact F64_fdiv _ _
theorem tbl_blocks {w w' : World} {gD gF : Nat} {X : List Int} {Y : List Nat} (h : Tbl w (some ⟨gD, 0, none⟩) X (some ⟨gF, 0, none⟩) Y) (h1 : w'.heap[gD]? = w.heap[gD]?) (h2 : w'.heap[gF]? = w.heap[gF]?) : Tbl w' (some ⟨gD, 0, none⟩) X (some ⟨gF, 0, none⟩) Y :=
  ⟨⟨fun k hk => by
    obtain ⟨b, o, e, hc⟩ := h.ix.cell k hk
    cases e
    exact ⟨gD, 0, rfl, (World.cell?_of_block h1).trans hc⟩, h.ix.wf, h.ix.len⟩,
   ⟨fun e => (by cases e), fun b o v e k hk => by
    cases e
    obtain ⟨h3, h4⟩ := h.fy.cell gF 0 none rfl k hk
    exact ⟨rfl, (World.cell?_of_block h2).trans h4⟩, h.fy.wf, h.fy.len⟩⟩
/-- The result's cell is written. -/
theorem roll_put {w wr : World} {b' k' : Int} {ax' : Option Addr} {nx' cx' : Nat} {ay' : Option Addr} {ny' cy' : Nat} (h : BoxC wr (w.heap.size + 1) b' k' ax' nx' cx' ay' ny' cy') (hb : Below w.heap.size w wr) (ba kind : Int) (ax : Option Addr) (nx cx : Nat) (ay : Option Addr) (ny cy : Nat) :
    ∃ W', ((((wr.setCell ⟨w.heap.size + 1, 0, none⟩ (.int .i64 ba)).setCell ⟨w.heap.size + 1, 1, none⟩ (.int .i64 kind)).setCell ⟨w.heap.size + 1, 2, none⟩ (.slice ax nx cx)).setCell ⟨w.heap.size + 1, 3, none⟩ (.slice ay ny cy)) = W' ∧
      BoxC W' (w.heap.size + 1) ba kind ax nx cx ay ny cy ∧ Below w.heap.size w W' ∧ ∀ B, w.heap.size + 1 < B → ∀ k, B ≤ k → W'.heap[k]? = wr.heap[k]? := by
  have e' : ∀ o, w.heap.size ≤ (⟨w.heap.size + 1, o, none⟩ : Addr).block := fun o => by show _ ≤ w.heap.size + 1; omega
  refine ⟨_, rfl, setC_row h _ _ _ _ _ _ _ _, (((hb.setCell (e' _) _).setCell (e' _) _).setCell (e' _) _).setCell (e' _) _, fun B hB k hk => ?_⟩
  have hne : k ≠ w.heap.size + 1 := by omega
  rw [Below.heap_setCell _ _ _ _ hne, Below.heap_setCell _ _ _ _ hne, Below.heap_setCell _ _ _ _ hne, Below.heap_setCell _ _ _ _ hne]
theorem news1 {w : World} {g : Nat} {u : Value} (h : w.cell? ⟨g, 0, none⟩ = some u) : ∀ j v, [u][j]? = some v → w.cell? ((⟨g, 0, none⟩ : Addr).add j) = some v := by
  intro j v hj
  match j, hj with
  | 0, hj => simp at hj; subst hj; simpa [Addr.add] using h
theorem BoxC.c23 {w w' : World} {B : Nat} {ba kind : Int} {ax : Option Addr} {nx cx : Nat} {ay : Option Addr} {ny cy : Nat} (h : BoxC w B ba kind ax nx cx ay ny cy) (hb : Below (B + 1) w w') :
    w'.cell? ⟨B, 2, none⟩ = some (.slice ax nx cx) ∧ w'.cell? ⟨B, 3, none⟩ = some (.slice ay ny cy) :=
  ⟨(h.belowN hb (Nat.lt_succ_self B)).cell.2.2.1, (h.belowN hb (Nat.lt_succ_self B)).cell.2.2.2⟩
/-- Behind the round's two appends and stores. -/
theorem RlS.next {B : Nat} {w3 wr wX : World} {n kind dd : Int} {X : List Int} {Y : List Nat} {x k i q gD cD' gF cF' : Nat} {aD : Option Addr} {cD : Nat} {aF : Option Addr} {cF : Nat} (h : RlS B w3 wr n kind X Y x k i aD cD aF cF) (hki : k ≤ i)
    (rs : RS (B + 1) wr wX (.slice (some ⟨gD, 0, none⟩) (i - k + 1) cD') (i - k + 1) ((rwD X k i).map (Value.int .i64) ++ [.int .i64 dd]) (.slice (some ⟨gF, 0, none⟩) (i - k + 1) cF') (i - k + 1) ((rwF Y x k i).map (Value.float .f64) ++ [.float .f64 q]))
    (hX : rwD X k (i + 1) = rwD X k i ++ [dd]) (hY : rwF Y x k (i + 1) = rwF Y x k i ++ [q]) :
    ∃ W', ((wX.setCell ⟨B, 2, none⟩ (.slice (some ⟨gD, 0, none⟩) (i - k + 1) cD')).setCell ⟨B, 3, none⟩ (.slice (some ⟨gF, 0, none⟩) (i - k + 1) cF')) = W' ∧ RlS B w3 W' n kind X Y x k (i + 1) (some ⟨gD, 0, none⟩) cD' (some ⟨gF, 0, none⟩) cF' := by
  have e : ∀ o, (⟨B, o, none⟩ : Addr).block < B + 1 := fun o => Nat.lt_succ_self B
  have e' : ∀ o, B ≤ (⟨B, o, none⟩ : Addr).block := fun o => Nat.le_refl _
  have hs : i + 1 - k = i - k + 1 := by omega
  have hB : Below B w3 wX := h.fr.trans (rs.bel.mono (Nat.le_succ B))
  refine ⟨_, rfl, ⟨⟨?_, ?_, rs.ne, Below.refl _ _, ?_⟩, ?_, (hB.setCell (e' _) _).setCell (e' _) _⟩⟩
  · rw [hs, hX, List.map_append]
    exact ownsRow_setCell_below (ownsRow_setCell_below rs.od (e 2) _) (e 3) _
  · rw [hs, hY, List.map_append]
    exact ownsRow_setCell_below (ownsRow_setCell_below rs.of (e 2) _) (e 3) _
  · have := rs.hb; simpa [World.setCell] using this
  · rw [hs]
    exact setC_two (h.bx.belowN rs.bel (Nat.lt_succ_self B)) _ _ _ _ _ _

end Go.Proofs.Yteikihidblcljaa
