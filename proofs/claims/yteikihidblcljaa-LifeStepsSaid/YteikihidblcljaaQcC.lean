/- The walk of curve's table. -/
import Derived.Test.YteikihidblcljaaQbC
import Derived.Test.YteikihidblcljaaM11
import Derived.Deep.AppendLies
import Derived.Deep.RegionHeld3
namespace Go.Proofs.Yteikihidblcljaa
open Go.RowKit
set_option linter.unusedSimpArgs false
set_option linter.unusedVariables false

/-- Nothing that was there has changed. -/
def KB (W w' : World) : Prop := Below W.heap.size W w'
theorem kb00 (W : World) : KB W W := Below.refl _ _
theorem kb0 (W : World) : KB W W.drew := (Below.refl _ _).drew
theorem kb_dr {W w' : World} (h : KB W w') : KB W w'.drew := Below.drew h
theorem kb_al {W w' : World} {o : Obj} (h : KB W w') : KB W (w'.alloc o) := Below.alloc h (Below.size h) o
theorem kb_gr {W w' w1 : World} {row : Option Nat} (h : KB W w') (g : w'.grownBy w1 row) (hr : ∀ k, row = some k → W.heap.size ≤ k) : KB W w1 := below_grown h g hr (Below.size h)
theorem kb_size {W w' : World} (h : KB W w') : W.heap.size ≤ w'.heap.size := Below.size h
/-- A row of one. -/
theorem own_one {w : World} {base : Nat} (hb : base ≤ w.heap.size) (e : TypeId) (v : Value) (g : Nat) (hg : w.heap.size = g) : (w.alloc (.cells #[v] e)).ownsRow base e 1 (.slice (some ⟨g, 0, none⟩) 1 1) 1 [v] := by
  subst hg
  exact ⟨rfl, .inr ⟨w.heap.size, 1, #[v], rfl, hb, heap_alloc_new w _, Nat.le_refl _, by unfold maxLen; decide, rfl, rfl⟩⟩
theorem own_kept {w w' : World} {base : Nat} {e : TypeId} {size n c g g' : Nat} {xs : List Value} (h : w.ownsRow base e size (.slice (some ⟨g, 0, none⟩) n c) n xs) (hg : w.grownBy w' (some g')) (hne : g ≠ g') : Hd (w'.ownsRow base e size (.slice (some ⟨g, 0, none⟩) n c) n xs) :=
  ⟨h.kept hg (Or.inr (by simpa [Value.ownBlock] using hne))⟩
theorem ints_oneQ (l : List Int) : ∀ u ∈ l.map (Value.int .i64), u.oneCell' = true := by
  intro u hu; rw [List.mem_map] at hu; obtain ⟨x, _, rfl⟩ := hu; rfl
theorem floats_oneQ (l : List Nat) : ∀ u ∈ l.map (Value.float .f64), u.oneCell' = true := by
  intro u hu; rw [List.mem_map] at hu; obtain ⟨x, _, rfl⟩ := hu; rfl
theorem Ins.newsQ {w : World} {ad : Addr} {l : List Int} (h : Ins w (some ad) l) (j : Nat) (u : Value) (hu : (l.map (Value.int .i64))[j]? = some u) : w.cell? (ad.add j) = some u := by
  rw [List.getElem?_map] at hu
  have hj : j < l.length := by
    rcases Nat.lt_or_ge j l.length with h | h
    · exact h
    · rw [List.getElem?_eq_none h] at hu; simp at hu
  obtain ⟨b, o, e, hc⟩ := h.cell j hj
  cases e
  have : (⟨b, o, none⟩ : Addr).add j = ⟨b, o + j, none⟩ := by unfold Addr.add; split <;> simp_all
  rw [this, hc]
  rw [List.getElem?_eq_getElem hj] at hu
  simp at hu
  rw [← hu, List.getD_eq_getElem?_getD, List.getElem?_eq_getElem hj]; rfl
theorem Fls.newsQ {w : World} {ad : Addr} {l : List Nat} (h : Fls w (some ad) l) (j : Nat) (u : Value) (hu : (l.map (Value.float .f64))[j]? = some u) : w.cell? (ad.add j) = some u := by
  rw [List.getElem?_map] at hu
  have hj : j < l.length := by
    rcases Nat.lt_or_ge j l.length with h | h
    · exact h
    · rw [List.getElem?_eq_none h] at hu; simp at hu
  obtain ⟨b, o, v⟩ := ad
  obtain ⟨e, hc⟩ := h.cell b o v rfl j hj
  subst e
  have : (⟨b, o, none⟩ : Addr).add j = ⟨b, o + j, none⟩ := by unfold Addr.add; split <;> simp_all
  rw [this, hc]
  rw [List.getElem?_eq_getElem hj] at hu
  simp at hu
  rw [← hu, List.getD_eq_getElem?_getD, List.getElem?_eq_getElem hj]; rfl
theorem ins_of_ownQ {w : World} {base n : Nat} {v : Value} {l : List Int} (h : w.ownsRow base 3 1 v n (l.map (Value.int .i64))) (hn : l.length = n) (h0 : 0 < n) (hw : ∀ k, -9223372036854775808 ≤ l.getD k 0 ∧ l.getD k 0 ≤ 9223372036854775807) (hl : l.length ≤ 1000000) :
    ∃ g c, v = .slice (some ⟨g, 0, none⟩) n c ∧ base ≤ g ∧ n ≤ c ∧ c ≤ 9223372036854775807 ∧ Ins w (some ⟨g, 0, none⟩) l := by
  rcases h.2 with ⟨_, e⟩ | ⟨g, cap, cur, rfl, hb, hg, hnc, hcm, hcs, ht⟩
  · omega
  · refine ⟨g, cap, rfl, hb, hnc, Nat.le_trans hcm (by unfold maxLen; decide), fun k hk => ⟨g, 0, rfl, ?_⟩, hw, by omega⟩
    have h2 := h.cells rfl k (.int .i64 (l.getD k 0)) (by rw [List.getElem?_map, List.getElem?_eq_getElem hk, List.getD_eq_getElem?_getD, List.getElem?_eq_getElem hk]; rfl)
    have : (⟨g, 0, none⟩ : Addr).add k = ⟨g, 0 + k, none⟩ := by by_cases h0 : k = 0 <;> simp [Addr.add, h0]
    rw [this] at h2
    exact h2
theorem fls_of_ownQ {w : World} {base n : Nat} {v : Value} {l : List Nat} (h : w.ownsRow base 28 1 v n (l.map (Value.float .f64))) (hn : l.length = n) (h0 : 0 < n) (hw : ∀ k, F64 (l.getD k 0)) (hl : l.length ≤ 1000000) :
    ∃ g c, v = .slice (some ⟨g, 0, none⟩) n c ∧ base ≤ g ∧ n ≤ c ∧ c ≤ 9223372036854775807 ∧ Fls w (some ⟨g, 0, none⟩) l := by
  rcases h.2 with ⟨_, e⟩ | ⟨g, cap, cur, rfl, hb, hg, hnc, hcm, hcs, ht⟩
  · omega
  · refine ⟨g, cap, rfl, hb, hnc, Nat.le_trans hcm (by unfold maxLen; decide), (fun e => by cases e), fun b o v e k hk => ?_, hw, by omega⟩
    cases e
    refine ⟨rfl, ?_⟩
    have h2 := h.cells rfl k (.float .f64 (l.getD k 0)) (by rw [List.getElem?_map, List.getElem?_eq_getElem hk, List.getD_eq_getElem?_getD, List.getElem?_eq_getElem hk]; rfl)
    have : (⟨g, 0, none⟩ : Addr).add k = ⟨g, 0 + k, none⟩ := by by_cases h0 : k = 0 <;> simp [Addr.add, h0]
    rw [this] at h2
    exact h2
theorem info_intQ : (Try.prog.info? 3).map (fun i => (i.zero, i.size, i.bytes)) = some (some (.int .i64 0), 1, 8) := by kernel_rfl
theorem info_fltQ : (Try.prog.info? 28).map (fun i => (i.zero, i.size, i.bytes)) = some (some (.float .f64 0), 1, 8) := by kernel_rfl

theorem kb_boxC {W w' : World} {b : Nat} {ba kind : Int} {ax : Option Addr} {nx cx : Nat} {ay : Option Addr} {ny cy : Nat} (h : BoxC W b ba kind ax nx cx ay ny cy) (k : KB W w') :
    w'.cell? ⟨b, 0, none⟩ = some (.int .i64 ba) ∧ w'.cell? ⟨b, 1, none⟩ = some (.int .i64 kind) ∧ w'.cell? ⟨b, 2, none⟩ = some (.slice ax nx cx) ∧ w'.cell? ⟨b, 3, none⟩ = some (.slice ay ny cy) := (h.below k).cell
theorem kb_boxC3 {W w' : World} {b b1 : Nat} {ba kind : Int} {ax : Option Addr} {nx cx : Nat} {ay : Option Addr} {ny cy : Nat} (h : BoxC W b ba kind ax nx cx ay ny cy) (k : KB W w') (hb : b ≠ b1) (v0 v1 v2 : Value) :
    (((w'.setCell ⟨b1, 0, none⟩ v0).setCell ⟨b1, 1, none⟩ v1).setCell ⟨b1, 2, none⟩ v2).cell? ⟨b, 0, none⟩ = some (.int .i64 ba) ∧ (((w'.setCell ⟨b1, 0, none⟩ v0).setCell ⟨b1, 1, none⟩ v1).setCell ⟨b1, 2, none⟩ v2).cell? ⟨b, 1, none⟩ = some (.int .i64 kind) ∧
    (((w'.setCell ⟨b1, 0, none⟩ v0).setCell ⟨b1, 1, none⟩ v1).setCell ⟨b1, 2, none⟩ v2).cell? ⟨b, 2, none⟩ = some (.slice ax nx cx) ∧ (((w'.setCell ⟨b1, 0, none⟩ v0).setCell ⟨b1, 1, none⟩ v1).setCell ⟨b1, 2, none⟩ v2).cell? ⟨b, 3, none⟩ = some (.slice ay ny cy) := by
  have h1 : BoxC (((w'.setCell ⟨b1, 0, none⟩ v0).setCell ⟨b1, 1, none⟩ v1).setCell ⟨b1, 2, none⟩ v2) b ba kind ax nx cx ay ny cy := by
    unfold BoxC
    rw [Below.heap_setCell _ _ _ _ hb, Below.heap_setCell _ _ _ _ hb, Below.heap_setCell _ _ _ _ hb]
    exact h.below k
  exact h1.cell
theorem kb_boxT {W w' : World} {b : Nat} {kind : Int} {ax : Option Addr} {nx cx : Nat} {ay : Option Addr} {ny cy : Nat} (h : BoxT W b kind ax nx cx ay ny cy) (k : KB W w') :
    BoxT w' b kind ax nx cx ay ny cy := h.below k
theorem BoxT.fz {w : World} {b : Nat} {kind : Int} {ax : Option Addr} {nx cx : Nat} {ay : Option Addr} {ny cy : Nat} (h : BoxT w b kind ax nx cx ay ny cy) (o : Nat) : w.frozen? ⟨b, o, none⟩ = false := by
  unfold BoxT at h
  simp [World.frozen?, h]
theorem set_rowQ {w : World} {b : Nat} {cs : Array Value} {t : TypeId} {r : Nat × Nat} {i : Nat} {v : Value} (h : w.heap[b]? = some (.cells cs t r)) : (w.setCell ⟨b, i, none⟩ v).heap[b]? = some (.cells (cs.setIfInBounds i v) t r) := by
  unfold World.setCell
  simp only [Array.getElem?_modify, h]
  simp
theorem BoxT.setQ {w : World} {b : Nat} {kind : Int} {ax : Option Addr} {nx cx : Nat} {ay : Option Addr} {ny cy : Nat} (h : BoxT w b kind ax nx cx ay ny cy) (kind' : Int) (ax' : Option Addr) (nx' cx' : Nat) (ay' : Option Addr) (ny' cy' : Nat) :
    BoxT (((w.setCell ⟨b, 0, none⟩ (.int .i64 kind')).setCell ⟨b, 1, none⟩ (.slice ax' nx' cx')).setCell ⟨b, 2, none⟩ (.slice ay' ny' cy')) b kind' ax' nx' cx' ay' ny' cy' := by
  unfold BoxT at *
  rw [set_rowQ (set_rowQ (set_rowQ h))]
  rfl
theorem box_ct (w : World) (ba kind : Int) (ax : Option Addr) (nx cx : Nat) (ay : Option Addr) (ny cy : Nat) :
    ∃ W, ((w.alloc (.cells #[.int .i64 ba, .int .i64 kind, .slice ax nx cx, .slice ay ny cy] 82)).alloc (.cells #[.int .i64 0, .slice none 0 0, .slice none 0 0] 60)) = W ∧
      BoxC W w.heap.size ba kind ax nx cx ay ny cy ∧ BoxT W (w.heap.size + 1) 0 none 0 0 none 0 0 ∧ Below w.heap.size w W ∧ W.heap.size = w.heap.size + 2 := by
  refine ⟨_, rfl, ?_, ?_, (((Below.refl _ _).alloc (Nat.le_refl _) _).alloc (World.alloc_size_le _ _) _), by simp⟩
  · unfold BoxC World.alloc; (try simp [Array.getElem?_push, Array.getElem_push]); all_goals (try omega)
  · unfold BoxT World.alloc; simp [Array.getElem?_push, Array.getElem_push]

/-- A curve's table: in memory of the call's own. -/
def TabRet (ba kind : Int) (X : List Int) (Y : List Nat) (w : World) (e : Ending) (w' : World) : Prop :=
  ∃ ax cx ay cy, e = .returned (.agg #[.int .i64 kind, .slice ax (X.length + 1) cx, .slice ay (Y.length + 1) cy]) ∧ Tbl w' ax (ba :: X) ay (one64 :: Y) ∧ Room ay (Y.length + 1) cy ∧ Below w.heap.size w w'
/-- What is there at the end. -/
theorem tab_end {w W w1 : World} {ba kind : Int} {X : List Int} {Y : List Nat} {g1 c1 g2 c2 : Nat} (HB : Below w.heap.size w W) (hs : W.heap.size = w.heap.size + 2) (HT : BoxT W (w.heap.size + 1) 0 none 0 0 none 0 0) (k : KB W w1)
    (o1 : w1.ownsRow W.heap.size 3 1 (.slice (some ⟨g1, 0, none⟩) (1 + X.length) c1) (1 + X.length) ([.int .i64 ba] ++ X.map (Value.int .i64)))
    (o2 : w1.ownsRow W.heap.size 28 1 (.slice (some ⟨g2, 0, none⟩) (1 + Y.length) c2) (1 + Y.length) ([.float .f64 4607182418800017408] ++ Y.map (Value.float .f64)))
    (wx : ∀ k, -9223372036854775808 ≤ (ba :: X).getD k 0 ∧ (ba :: X).getD k 0 ≤ 9223372036854775807) (wy : ∀ k, F64 ((one64 :: Y).getD k 0)) (lx : X.length ≤ 255) (ly : Y.length ≤ 255) :
    ∃ W', (((w1.setCell ⟨w.heap.size + 1, 0, none⟩ (.int .i64 kind)).setCell ⟨w.heap.size + 1, 1, none⟩ (.slice (some ⟨g1, 0, none⟩) (1 + X.length) c1)).setCell ⟨w.heap.size + 1, 2, none⟩ (.slice (some ⟨g2, 0, none⟩) (1 + Y.length) c2)) = W' ∧
      BoxT W' (w.heap.size + 1) kind (some ⟨g1, 0, none⟩) (1 + X.length) c1 (some ⟨g2, 0, none⟩) (1 + Y.length) c2 ∧ TabRet ba kind X Y w (.returned (.agg #[.int .i64 kind, .slice (some ⟨g1, 0, none⟩) (1 + X.length) c1, .slice (some ⟨g2, 0, none⟩) (1 + Y.length) c2])) W' := by
  have e : ∀ o, (⟨w.heap.size + 1, o, none⟩ : Addr).block < W.heap.size := fun o => by show w.heap.size + 1 < _; omega
  have e' : ∀ o, w.heap.size ≤ (⟨w.heap.size + 1, o, none⟩ : Addr).block := fun o => by show _ ≤ w.heap.size + 1; omega
  have p1 := ownsRow_setCell_below (ownsRow_setCell_below (ownsRow_setCell_below o1 (e 0) (.int .i64 kind)) (e 1) (.slice (some ⟨g1, 0, none⟩) (1 + X.length) c1)) (e 2) (.slice (some ⟨g2, 0, none⟩) (1 + Y.length) c2)
  have p2 := ownsRow_setCell_below (ownsRow_setCell_below (ownsRow_setCell_below o2 (e 0) (.int .i64 kind)) (e 1) (.slice (some ⟨g1, 0, none⟩) (1 + X.length) c1)) (e 2) (.slice (some ⟨g2, 0, none⟩) (1 + Y.length) c2)
  have pb : Below w.heap.size w w1 := HB.trans (Below.mono k (by omega))
  refine ⟨_, rfl, (kb_boxT HT k).setQ _ _ _ _ _ _ _, ?_⟩
  obtain ⟨ga, ca, ea, _, _, _, hi⟩ := ins_of_ownQ (l := ba :: X) p1 (by simp; omega) (by omega) wx (by simp; omega)
  obtain ⟨gb, cb, eb, _, hr1, hr2, hf⟩ := fls_of_ownQ (l := one64 :: Y) p2 (by simp; omega) (by omega) wy (by simp; omega)
  cases ea
  cases eb
  exact ⟨_, _, _, _, by rw [Nat.add_comm 1, Nat.add_comm 1], ⟨hi, hf⟩, ⟨by omega, by omega, fun e => by cases e⟩, ((pb.setCell (e' _) _).setCell (e' _) _).setCell (e' _) _⟩

theorem own_dr {w : World} {base : Nat} {e : TypeId} {size : Nat} {v : Value} {n : Nat} {xs : List Value} (h : w.ownsRow base e size v n xs) : w.drew.ownsRow base e size v n xs := h
theorem own_al {w : World} {base : Nat} {e : TypeId} {size : Nat} {v : Value} {n : Nat} {xs : List Value} {o : Obj} (h : w.ownsRow base e size v n xs) : (w.alloc o).ownsRow base e size v n xs := h.alloc o

set_option maxHeartbeats 6400000 in
set_option maxRecDepth 100000 in
theorem curveTable_any (ba kind : Int) (ax : Option Addr) (X : List Int) (cx : Nat) (ay : Option Addr) (Y : List Nat) (cy : Nat) (w : World) (hba : -9223372036854775808 ≤ ba ∧ ba ≤ 9223372036854775807) (ht : Tbl w ax X ay Y) (x1 : 1 ≤ X.length) (x2 : X.length ≤ 255) (y1 : 1 ≤ Y.length) (y2 : Y.length ≤ 255) :
    Calls Try.prog 99 #[.agg #[.int .i64 ba, .int .i64 kind, .slice ax X.length cx, .slice ay Y.length cy]] w (TabRet ba kind X Y w) := by
  obtain ⟨bx, ox, rfl, _⟩ := ht.ix.cell 0 (by omega)
  obtain ⟨by_, oy, rfl, _⟩ := ht.fy.at 0 (by omega)
  obtain ⟨W, hW, b1, b2, b3, b4⟩ := box_ct w ba kind (some ⟨bx, ox, none⟩) X.length cx (some ⟨by_, oy, none⟩) Y.length cy
  have HBX := Hd.mk b1
  have HBT := Hd.mk b2
  have HB := Hd.mk b3
  have HS := Hd.mk b4
  have HW := Hd.mk hW
  have HT := Hd.mk (ht.belowK b3)
  have wx : Hd (∀ k, -9223372036854775808 ≤ (ba :: X).getD k 0 ∧ (ba :: X).getD k 0 ≤ 9223372036854775807) := ⟨fun k => by
    cases k with
    | zero => simpa using hba
    | succ k => simpa using ht.ix.wf k⟩
  have wy : Hd (∀ k, F64 ((one64 :: Y).getD k 0)) := ⟨fun k => by
    cases k with
    | zero => simpa using one_ok.1
    | succ k => simpa using ht.fy.wf k⟩
  have HNX : Hd (∀ w', KB W w' → ∀ j u, (X.map (Value.int .i64))[j]? = some u → w'.cell? ((⟨bx, ox, none⟩ : Addr).add j) = some u) := ⟨fun w' k => (HT.out.belowK k).ix.newsQ⟩
  have HNY : Hd (∀ w', KB W w' → ∀ j u, (Y.map (Value.float .f64))[j]? = some u → w'.cell? ((⟨by_, oy, none⟩ : Addr).add j) = some u) := ⟨fun w' k => (HT.out.belowK k).fy.newsQ⟩
  have HLX : Hd ((X.map (Value.int .i64)).length = X.length * 1) := ⟨by simp⟩
  have HLY : Hd ((Y.map (Value.float .f64)).length = Y.length * 1) := ⟨by simp⟩
  have HEnd := Hd.mk fun (w1 : World) (g1 c1 g2 c2 : Nat) (k : KB W w1) o1 o2 => tab_end (kind := kind) (g1 := g1) (c1 := c1) (g2 := g2) (c2 := c2) b3 b4 b2 k o1 o2 wx.out wy.out x2 y2
  have HR : Hd (∀ e w', TabRet ba kind X Y w e w' → TabRet ba kind X Y w e w') := ⟨fun _ _ h => h⟩
  obtain ⟨i0, hi, hz0, hz1, hz2⟩ := info_parts info_intQ
  obtain ⟨j0, gi, gz0, gz1, gz2⟩ := info_parts info_fltQ
  have HMX : Hd (1 + X.length ≤ maxLen ∧ (1 + X.length) * 8 ≤ 140737488355328 ∧ 0 < X.length) := ⟨by unfold maxLen; omega, by omega, by omega⟩
  have HMY : Hd (1 + Y.length ≤ maxLen ∧ (1 + Y.length) * 8 ≤ 140737488355328 ∧ 0 < Y.length) := ⟨by unfold maxLen; omega, by omega, by omega⟩
  obtain ⟨p0, p1, p2, p3⟩ := b1.cell
  generalize X.length = n at *
  generalize Y.length = m at *
  clear ht b1 b2 b3 b4 hW hba
  go_enter Try.func99, Try.ntmps99
  go_upto_region 1 with fail
  rw [HW.out]
  go_region_held3 (fun w' => w'.cell? ⟨w.heap.size, 0, none⟩ = some (.int .i64 ba) ∧ w'.cell? ⟨w.heap.size, 1, none⟩ = some (.int .i64 kind) ∧ w'.cell? ⟨w.heap.size, 2, none⟩ = some (.slice (some ⟨bx, ox, none⟩) n cx) ∧ w'.cell? ⟨w.heap.size, 3, none⟩ = some (.slice (some ⟨by_, oy, none⟩) m cy))
    (first
      | (refine kb_boxC HBX.out ?_
         (repeat (with_reducible first | assumption | exact kb0 _ | exact kb00 _ | refine kb_al ?_ | refine kb_dr ?_)); done)
      | (refine kb_boxC3 HBX.out ?_ (by omega) _ _ _
         (repeat (with_reducible first | assumption | exact kb0 _ | exact kb00 _ | refine kb_al ?_ | refine kb_dr ?_)); done))
    (first
      | (refine step_append_lies _ rfl (.tmp 7) (.tmp 9) 57 (by rfl) W.heap.size 3 i0 (.int .i64 0) 1 8 Try.underlying57 hi hz0 hz1 hz2 rfl (by decide) _ 1 [.int .i64 ba] (by rfl) ?_ ⟨bx, ox, none⟩ n cx (X.map (Value.int .i64)) (by rfl) HLX.out (HNX.out _ ?_) (ints_oneQ X) HMX.out.2.2 HMX.out.1 HMX.out.2.1 (kb_size ?_) _ rfl ?_
         · (repeat (first | (refine Hd.out ?_; assumption; done) | (refine own_one (kb_size ?_) _ _ _ ?_; (· (repeat (with_reducible first | assumption | exact kb0 _ | exact kb00 _ | refine kb_al ?_ | refine kb_dr ?_)); done); (first | rfl | simp); done) | with_reducible refine own_dr ?_ | with_reducible refine own_al ?_))
           done
         · (repeat (with_reducible first | assumption | exact kb0 _ | exact kb00 _ | refine kb_al ?_ | refine kb_dr ?_))
           done
         · (repeat (with_reducible first | assumption | exact kb0 _ | exact kb00 _ | refine kb_al ?_ | refine kb_dr ?_))
           done
         intro g1 cap1 w1 hown1 hgrow1 hat1 hlt1
         have O1 := Hd.mk hown1
         (try
           have OB1 : Hd (w1.ownsRow W.heap.size 28 1 (.slice (some ⟨W.heap.size, 0, none⟩) 1 1) 1 [.float .f64 4607182418800017408]) := by
             refine own_kept ?_ hgrow1 ?_
             · (repeat (first | (refine Hd.out ?_; assumption; done) | (refine own_one (kb_size ?_) _ _ _ ?_; (· (repeat (with_reducible first | assumption | exact kb0 _ | exact kb00 _ | refine kb_al ?_ | refine kb_dr ?_)); done); (first | rfl | simp); done) | with_reducible refine own_dr ?_ | with_reducible refine own_al ?_))
               done
             · first | exact Nat.ne_of_lt hlt1 | exact Nat.ne_of_lt hlt2 | (simp; done) | (simp; omega) | ((try dsimp only); omega)
           have hne1 : g1 ≠ W.heap.size := by
             rcases hat1 with h | h
             · have h2 := Option.some.inj h; (try dsimp only at h2); omega
             · simp at h; omega)
         (try
           have OB1 : Hd (w1.ownsRow W.heap.size 28 1 (.slice (some ⟨W.heap.size + 1, 0, none⟩) 1 1) 1 [.float .f64 4607182418800017408]) := by
             refine own_kept ?_ hgrow1 ?_
             · (repeat (first | (refine Hd.out ?_; assumption; done) | (refine own_one (kb_size ?_) _ _ _ ?_; (· (repeat (with_reducible first | assumption | exact kb0 _ | exact kb00 _ | refine kb_al ?_ | refine kb_dr ?_)); done); (first | rfl | simp); done) | with_reducible refine own_dr ?_ | with_reducible refine own_al ?_))
               done
             · first | exact Nat.ne_of_lt hlt1 | exact Nat.ne_of_lt hlt2 | (simp; done) | (simp; omega) | ((try dsimp only); omega)
           have hne1 : g1 ≠ W.heap.size + 1 := by
             rcases hat1 with h | h
             · have h2 := Option.some.inj h; (try dsimp only at h2); omega
             · simp at h; omega)
         (try
           have OB1 : Hd (w1.ownsRow W.heap.size 28 1 (.slice (some ⟨g2, 0, none⟩) (1 + m) cap2) (1 + m) ([.float .f64 4607182418800017408] ++ Y.map (Value.float .f64))) := by
             refine own_kept ?_ hgrow1 ?_
             · (repeat (first | (refine Hd.out ?_; assumption; done) | (refine own_one (kb_size ?_) _ _ _ ?_; (· (repeat (with_reducible first | assumption | exact kb0 _ | exact kb00 _ | refine kb_al ?_ | refine kb_dr ?_)); done); (first | rfl | simp); done) | with_reducible refine own_dr ?_ | with_reducible refine own_al ?_))
               done
             · first | exact Nat.ne_of_lt hlt1 | exact Nat.ne_of_lt hlt2 | (simp; done) | (simp; omega) | ((try dsimp only); omega))
         have K1 : KB W w1 := by
           refine kb_gr ?_ hgrow1 (fun k hk => ?_)
           · (repeat (with_reducible first | assumption | exact kb0 _ | exact kb00 _ | refine kb_al ?_ | refine kb_dr ?_))
             done
           · obtain rfl : _ = k := Option.some.inj hk
             (first | exact Nat.le_refl _ | exact Nat.le_succ _ | (refine kb_size ?_; (repeat (with_reducible first | assumption | exact kb0 _ | exact kb00 _ | refine kb_al ?_ | refine kb_dr ?_)); done; done) | (refine Nat.le_succ_of_le (kb_size ?_); (repeat (with_reducible first | assumption | exact kb0 _ | exact kb00 _ | refine kb_al ?_ | refine kb_dr ?_)); done; done) | omega)
         obtain ⟨e0, e1, e2⟩ := (kb_boxT HBT.out K1).cell
         have f0 := (kb_boxT HBT.out K1).fz 0
         have f1 := (kb_boxT HBT.out K1).fz 1
         have f2 := (kb_boxT HBT.out K1).fz 2
         clear hown1)
      | (refine step_append_lies _ rfl (.tmp 11) (.tmp 13) 58 (by rfl) W.heap.size 28 j0 (.float .f64 0) 1 8 Try.underlying58 gi gz0 gz1 gz2 rfl (by decide) _ 1 [.float .f64 4607182418800017408] (by rfl) ?_ ⟨by_, oy, none⟩ m cy (Y.map (Value.float .f64)) (by rfl) HLY.out (HNY.out _ ?_) (floats_oneQ Y) HMY.out.2.2 HMY.out.1 HMY.out.2.1 (kb_size ?_) _ rfl ?_
         · (repeat (first | (refine Hd.out ?_; assumption; done) | (refine own_one (kb_size ?_) _ _ _ ?_; (· (repeat (with_reducible first | assumption | exact kb0 _ | exact kb00 _ | refine kb_al ?_ | refine kb_dr ?_)); done); (first | rfl | simp); done) | with_reducible refine own_dr ?_ | with_reducible refine own_al ?_))
           done
         · (repeat (with_reducible first | assumption | exact kb0 _ | exact kb00 _ | refine kb_al ?_ | refine kb_dr ?_))
           done
         · (repeat (with_reducible first | assumption | exact kb0 _ | exact kb00 _ | refine kb_al ?_ | refine kb_dr ?_))
           done
         intro g2 cap2 w2 hown2 hgrow2 hat2 hlt2
         have O2 := Hd.mk hown2
         (try
           have OA1 : Hd (w2.ownsRow W.heap.size 3 1 (.slice (some ⟨W.heap.size, 0, none⟩) 1 1) 1 [.int .i64 ba]) := by
             refine own_kept ?_ hgrow2 ?_
             · (repeat (first | (refine Hd.out ?_; assumption; done) | (refine own_one (kb_size ?_) _ _ _ ?_; (· (repeat (with_reducible first | assumption | exact kb0 _ | exact kb00 _ | refine kb_al ?_ | refine kb_dr ?_)); done); (first | rfl | simp); done) | with_reducible refine own_dr ?_ | with_reducible refine own_al ?_))
               done
             · first | exact Nat.ne_of_lt hlt1 | exact Nat.ne_of_lt hlt2 | (simp; done) | (simp; omega) | ((try dsimp only); omega)
           have hne2 : g2 ≠ W.heap.size := by
             rcases hat2 with h | h
             · have h2 := Option.some.inj h; (try dsimp only at h2); omega
             · simp at h; omega)
         (try
           have OA1 : Hd (w2.ownsRow W.heap.size 3 1 (.slice (some ⟨W.heap.size + 1, 0, none⟩) 1 1) 1 [.int .i64 ba]) := by
             refine own_kept ?_ hgrow2 ?_
             · (repeat (first | (refine Hd.out ?_; assumption; done) | (refine own_one (kb_size ?_) _ _ _ ?_; (· (repeat (with_reducible first | assumption | exact kb0 _ | exact kb00 _ | refine kb_al ?_ | refine kb_dr ?_)); done); (first | rfl | simp); done) | with_reducible refine own_dr ?_ | with_reducible refine own_al ?_))
               done
             · first | exact Nat.ne_of_lt hlt1 | exact Nat.ne_of_lt hlt2 | (simp; done) | (simp; omega) | ((try dsimp only); omega)
           have hne2 : g2 ≠ W.heap.size + 1 := by
             rcases hat2 with h | h
             · have h2 := Option.some.inj h; (try dsimp only at h2); omega
             · simp at h; omega)
         (try
           have OA1 : Hd (w2.ownsRow W.heap.size 3 1 (.slice (some ⟨g1, 0, none⟩) (1 + n) cap1) (1 + n) ([.int .i64 ba] ++ X.map (Value.int .i64))) := by
             refine own_kept ?_ hgrow2 ?_
             · (repeat (first | (refine Hd.out ?_; assumption; done) | (refine own_one (kb_size ?_) _ _ _ ?_; (· (repeat (with_reducible first | assumption | exact kb0 _ | exact kb00 _ | refine kb_al ?_ | refine kb_dr ?_)); done); (first | rfl | simp); done) | with_reducible refine own_dr ?_ | with_reducible refine own_al ?_))
               done
             · first | exact Nat.ne_of_lt hlt1 | exact Nat.ne_of_lt hlt2 | (simp; done) | (simp; omega) | ((try dsimp only); omega))
         have K2 : KB W w2 := by
           refine kb_gr ?_ hgrow2 (fun k hk => ?_)
           · (repeat (with_reducible first | assumption | exact kb0 _ | exact kb00 _ | refine kb_al ?_ | refine kb_dr ?_))
             done
           · obtain rfl : _ = k := Option.some.inj hk
             (first | exact Nat.le_refl _ | exact Nat.le_succ _ | (refine kb_size ?_; (repeat (with_reducible first | assumption | exact kb0 _ | exact kb00 _ | refine kb_al ?_ | refine kb_dr ?_)); done; done) | (refine Nat.le_succ_of_le (kb_size ?_); (repeat (with_reducible first | assumption | exact kb0 _ | exact kb00 _ | refine kb_al ?_ | refine kb_dr ?_)); done; done) | omega)
         obtain ⟨e0, e1, e2⟩ := (kb_boxT HBT.out K2).cell
         have f0 := (kb_boxT HBT.out K2).fz 0
         have f1 := (kb_boxT HBT.out K2).fz 1
         have f2 := (kb_boxT HBT.out K2).fz 2
         clear hown2)
      | fail)
  all_goals
    first
    | obtain ⟨W', hW', hbx, hret⟩ := HEnd.out w2 g1 cap1 g2 cap2 K2 OA1.out O2.out
    | obtain ⟨W', hW', hbx, hret⟩ := HEnd.out w1 g1 cap1 g2 cap2 K1 O1.out OB1.out
    rw [hW']
    have HRt := Hd.mk hret
    obtain ⟨r0, r1, r2⟩ := hbx.cell
    clear hret hW'
    go_wp2_with fail
    exact bodyPost_ret (v := .agg #[.int .i64 kind, .slice (some ⟨g1, 0, none⟩) (1 + n) cap1, .slice (some ⟨g2, 0, none⟩) (1 + m) cap2]) (by simp [results, Try.results99, go_sem, r0, r1, r2]) rfl HRt.out

end Go.Proofs.Yteikihidblcljaa
