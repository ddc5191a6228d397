/- The walk of the reference's Of (tenorref10): a table's values as words. -/
import Derived.Test.YtmmcnjoeepgpgaaGreatM12
import Derived.Test.YtmmcnjoeepgpgaaGreatM11
import Derived.Deep.AppendLies
import Derived.Deep.RegionLaw
namespace Go.Proofs.YtmmcnjoeepgpgaaGreat
open Go.RowKit
set_option linter.unusedSimpArgs false
set_option linter.unusedVariables false

/-- A block that holds the reference's table. -/
def BoxR (w : World) (b : Nat) (kind : Int) (ax : Option Addr) (nx cx : Nat) (ay : Option Addr) (ny cy : Nat) : Prop := w.heap[b]? = some (.cells #[.int .i64 kind, .slice ax nx cx, .slice ay ny cy] 36 (0, 0))
theorem BoxR.cell {w : World} {b : Nat} {kind : Int} {ax : Option Addr} {nx cx : Nat} {ay : Option Addr} {ny cy : Nat} (h : BoxR w b kind ax nx cx ay ny cy) :
    w.cell? ⟨b, 0, none⟩ = some (.int .i64 kind) ∧ w.cell? ⟨b, 1, none⟩ = some (.slice ax nx cx) ∧ w.cell? ⟨b, 2, none⟩ = some (.slice ay ny cy) := by
  unfold BoxR at h
  refine ⟨?_, ?_, ?_⟩ <;> simp [World.cell?, h]
theorem BoxR.frozen {w : World} {b : Nat} {kind : Int} {ax : Option Addr} {nx cx : Nat} {ay : Option Addr} {ny cy : Nat} (h : BoxR w b kind ax nx cx ay ny cy) (o : Nat) : w.frozen? ⟨b, o, none⟩ = false := by
  unfold BoxR at h
  simp [World.frozen?, h]
theorem BoxR.lt {w : World} {b : Nat} {kind : Int} {ax : Option Addr} {nx cx : Nat} {ay : Option Addr} {ny cy : Nat} (h : BoxR w b kind ax nx cx ay ny cy) : b < w.heap.size := by
  unfold BoxR at h
  exact (Array.getElem?_eq_some_iff.1 h).1
theorem BoxR.below {w w' : World} {b : Nat} {kind : Int} {ax : Option Addr} {nx cx : Nat} {ay : Option Addr} {ny cy : Nat} (h : BoxR w b kind ax nx cx ay ny cy) (hb : Below w.heap.size w w') : BoxR w' b kind ax nx cx ay ny cy := (hb.block b h.lt).trans h
theorem BoxR.belowB {B : Nat} {w w' : World} {b : Nat} {kind : Int} {ax : Option Addr} {nx cx : Nat} {ay : Option Addr} {ny cy : Nat} (h : BoxR w b kind ax nx cx ay ny cy) (hb : Below B w w') (hB : b < B) : BoxR w' b kind ax nx cx ay ny cy := (hb.block b hB).trans h
theorem BoxT.belowB {B : Nat} {w w' : World} {b : Nat} {kind : Int} {ax : Option Addr} {nx cx : Nat} {ay : Option Addr} {ny cy : Nat} (h : BoxT w b kind ax nx cx ay ny cy) (hb : Below B w w') (hB : b < B) : BoxT w' b kind ax nx cx ay ny cy := (hb.block b hB).trans h
theorem BoxR.set2 {w : World} {b : Nat} {kind : Int} {ax : Option Addr} {nx cx : Nat} {ay : Option Addr} {ny cy : Nat} (h : BoxR w b kind ax nx cx ay ny cy) (ay' : Option Addr) (ny' cy' : Nat) : BoxR (w.setCell ⟨b, 2, none⟩ (.slice ay' ny' cy')) b kind ax nx cx ay' ny' cy' := by
  unfold BoxR at *
  rw [set_row3 h]
  rfl
where
  set_row3 {w : World} {b : Nat} {cs : Array Value} {t : TypeId} {r : Nat × Nat} {i : Nat} {v : Value} (h : w.heap[b]? = some (.cells cs t r)) : (w.setCell ⟨b, i, none⟩ v).heap[b]? = some (.cells (cs.setIfInBounds i v) t r) := by
    unfold World.setCell
    simp only [Array.getElem?_modify, h]
    simp
theorem BoxR.alloc {w : World} {b : Nat} {kind : Int} {ax : Option Addr} {nx cx : Nat} {ay : Option Addr} {ny cy : Nat} (h : BoxR w b kind ax nx cx ay ny cy) (o : Obj) : BoxR (w.alloc o) b kind ax nx cx ay ny cy := h.below ((Below.refl _ _).alloc (Nat.le_refl _) o)
theorem box_r (w : World) (kind : Int) (ax : Option Addr) (nx cx : Nat) (ay : Option Addr) (ny cy : Nat) :
    ∃ W, (w.alloc (.cells #[.int .i64 kind, .slice ax nx cx, .slice ay ny cy] 36)) = W ∧ BoxR W w.heap.size kind ax nx cx ay ny cy ∧ Below w.heap.size w W := by
  refine ⟨_, rfl, ?_, ((Below.refl _ _).alloc (Nat.le_refl _) _)⟩
  unfold BoxR World.alloc; simp [Array.getElem?_push]
/-- Two boxes. -/
theorem box_tr (w : World) (kind : Int) (ax : Option Addr) (nx cx : Nat) (ay : Option Addr) (ny cy : Nat) :
    ∃ W, ((w.alloc (.cells #[.int .i64 kind, .slice ax nx cx, .slice ay ny cy] 25)).alloc (.cells #[.int .i64 0, .slice none 0 0, .slice none 0 0] 36)) = W ∧
      BoxT W w.heap.size kind ax nx cx ay ny cy ∧ BoxR W (w.heap.size + 1) 0 none 0 0 none 0 0 ∧ Below w.heap.size w W ∧ W.heap.size = w.heap.size + 2 := by
  refine ⟨_, rfl, ?_, ?_, (((Below.refl _ _).alloc (Nat.le_refl _) _).alloc (World.alloc_size_le _ _) _), by simp⟩
  · unfold BoxT World.alloc; (try simp [Array.getElem?_push, Array.getElem_push]); all_goals (try omega)
  · unfold BoxR World.alloc; simp [Array.getElem?_push, Array.getElem_push]

theorem own_room {w : World} {base : Nat} {t : TypeId} {a : Option Addr} {n c : Nat} {xs : List Value} (h : w.ownsRow base t 1 (.slice a n c) n xs) : n ≤ c ∧ c ≤ 9223372036854775807 := by
  obtain ⟨_, ⟨e, h0⟩ | ⟨g, cap, cur, e, _, _, h1, h2, _⟩⟩ := h
  · simp only [Value.slice.injEq] at e
    obtain ⟨_, e2, e3⟩ := e
    omega
  · simp only [Value.slice.injEq] at e
    obtain ⟨_, e2, e3⟩ := e
    rw [e3]
    exact ⟨h1, Nat.le_trans h2 (by unfold maxLen; decide)⟩
theorem wf_takeU {l : List Nat} (h : ∀ i, F64 (l.getD i 0)) (k : Nat) : ∀ i, F64 ((l.take k).getD i 0) := fun i => by
  rw [List.getD_eq_getElem?_getD, List.getElem?_take]
  split
  · rw [← List.getD_eq_getElem?_getD]; exact h i
  · exact ⟨by decide⟩

/-- The world behind an append into the table's own row. -/
theorem of_step {w wd w1 : World} {o : Obj} {kind : Int} {ax : Option Addr} {nx cx n cy : Nat} {ay a : Option Addr} {k c g cap : Nat} {xs ys : List Value}
    (hown' : w1.ownsRow (w.heap.size + 3) 31 1 (.slice (some ⟨g, 0, none⟩) (k + 1) cap) (k + 1) ys) (hgrow : (wd.alloc o).grownBy w1 (Value.slice a k c).ownBlock)
    (OD : wd.ownsRow (w.heap.size + 3) 31 1 (.slice a k c) k xs) (B1D : BoxT wd w.heap.size kind ax nx cx ay n cy) (B2D : BoxR wd (w.heap.size + 1) 0 none 0 0 none 0 0)
    (B3D : BoxR wd (w.heap.size + 2) kind ax nx cx a k c) (HBD : Below w.heap.size w wd) (hszd : w.heap.size + 3 ≤ wd.heap.size) :
    w1.frozen? ⟨w.heap.size + 2, 2, none⟩ = false ∧ w1.cell? ⟨w.heap.size + 2, 2, none⟩ = some (.slice a k c) ∧
    Hd ((w1.setCell ⟨w.heap.size + 2, 2, none⟩ (.slice (some ⟨g, 0, none⟩) (k + 1) cap)).ownsRow (w.heap.size + 3) 31 1 (.slice (some ⟨g, 0, none⟩) (k + 1) cap) (k + 1) ys) ∧
    Hd (BoxT (w1.setCell ⟨w.heap.size + 2, 2, none⟩ (.slice (some ⟨g, 0, none⟩) (k + 1) cap)) w.heap.size kind ax nx cx ay n cy) ∧
    Hd (BoxR (w1.setCell ⟨w.heap.size + 2, 2, none⟩ (.slice (some ⟨g, 0, none⟩) (k + 1) cap)) (w.heap.size + 1) 0 none 0 0 none 0 0) ∧
    Hd (BoxR (w1.setCell ⟨w.heap.size + 2, 2, none⟩ (.slice (some ⟨g, 0, none⟩) (k + 1) cap)) (w.heap.size + 2) kind ax nx cx (some ⟨g, 0, none⟩) (k + 1) cap) ∧
    Hd (Below w.heap.size w (w1.setCell ⟨w.heap.size + 2, 2, none⟩ (.slice (some ⟨g, 0, none⟩) (k + 1) cap))) ∧
    w.heap.size + 3 ≤ (w1.setCell ⟨w.heap.size + 2, 2, none⟩ (.slice (some ⟨g, 0, none⟩) (k + 1) cap)).heap.size := by
  have HG : Below (w.heap.size + 3) wd w1 := ((Below.refl _ _).alloc hszd _).grown hgrow (by have := World.alloc_size_le wd o; omega) (owns_block OD)
  have G1 := B1D.belowB HG (by omega)
  have G2 := B2D.belowB HG (by omega)
  have G3 := B3D.belowB HG (by omega)
  have GB := HBD.trans (HG.mono (by omega))
  have gs : w.heap.size + 3 ≤ w1.heap.size := Nat.le_trans hszd HG.size
  refine ⟨G3.frozen _, G3.cell.2.2, ⟨ownsRow_setCell_below hown' (a := ⟨w.heap.size + 2, 2, none⟩) (by show w.heap.size + 2 < _; omega) _⟩, ⟨?_⟩, ⟨?_⟩, ⟨G3.set2 (some ⟨g, 0, none⟩) (k + 1) cap⟩, ⟨GB.setCell (p := ⟨w.heap.size + 2, 2, none⟩) (by show _ ≤ w.heap.size + 2; omega) _⟩, ?_⟩
  · exact (Below.heap_setCell w1 ⟨w.heap.size + 2, 2, none⟩ (.slice (some ⟨g, 0, none⟩) (k + 1) cap) w.heap.size (by show w.heap.size ≠ w.heap.size + 2; omega)).trans G1
  · exact (Below.heap_setCell w1 ⟨w.heap.size + 2, 2, none⟩ (.slice (some ⟨g, 0, none⟩) (k + 1) cap) (w.heap.size + 1) (by show w.heap.size + 1 ≠ w.heap.size + 2; omega)).trans G2
  · simp [World.setCell]; exact gs

theorem BoxR.set3 {w : World} {b : Nat} {kind : Int} {ax : Option Addr} {nx cx : Nat} {ay : Option Addr} {ny cy : Nat} (h : BoxR w b kind ax nx cx ay ny cy) (kind' : Int) (ax' : Option Addr) (nx' cx' : Nat) (ay' : Option Addr) (ny' cy' : Nat) :
    BoxR (((w.setCell ⟨b, 0, none⟩ (.int .i64 kind')).setCell ⟨b, 1, none⟩ (.slice ax' nx' cx')).setCell ⟨b, 2, none⟩ (.slice ay' ny' cy')) b kind' ax' nx' cx' ay' ny' cy' := by
  unfold BoxR at *
  rw [BoxR.set2.set_row3 (BoxR.set2.set_row3 (BoxR.set2.set_row3 h))]
  rfl
/-- The world behind the result's store. -/
theorem of_exit {w wr : World} {kind : Int} {ax : Option Addr} {nx cx : Nat} {a : Option Addr} {n c : Nat} {xs : List Value}
    (OD : wr.ownsRow (w.heap.size + 3) 31 1 (.slice a n c) n xs) (B2D : BoxR wr (w.heap.size + 1) 0 none 0 0 none 0 0) (HBD : Below w.heap.size w wr) :
    ∃ W', (((wr.setCell ⟨w.heap.size + 1, 0, none⟩ (.int .i64 kind)).setCell ⟨w.heap.size + 1, 1, none⟩ (.slice ax nx cx)).setCell ⟨w.heap.size + 1, 2, none⟩ (.slice a n c)) = W' ∧
      W'.ownsRow (w.heap.size + 3) 31 1 (.slice a n c) n xs ∧ BoxR W' (w.heap.size + 1) kind ax nx cx a n c ∧ Below w.heap.size w W' := by
  have e : ∀ o, (⟨w.heap.size + 1, o, none⟩ : Addr).block < w.heap.size + 3 := fun o => by show w.heap.size + 1 < _; omega
  have e' : ∀ o, w.heap.size ≤ (⟨w.heap.size + 1, o, none⟩ : Addr).block := fun o => by show _ ≤ w.heap.size + 1; omega
  exact ⟨_, rfl, ownsRow_setCell_below (ownsRow_setCell_below (ownsRow_setCell_below OD (e _) _) (e _) _) (e _) _, B2D.set3 _ _ _ _ _ _ _, ((HBD.setCell (e' _) _).setCell (e' _) _).setCell (e' _) _⟩

/-- It returns the reference's table of a table. -/
def OfRet (kind : Int) (ax : Option Addr) (nx cx : Nat) (Y : List Nat) (w : World) (e : Ending) (w' : World) : Prop :=
  ∃ au cu, e = .returned (.agg #[.int .i64 kind, .slice ax nx cx, .slice au Y.length cu]) ∧ (Y.length ≤ 1000000000 → Us w' au Y) ∧ (Y.length ≤ cu ∧ cu ≤ 9223372036854775807) ∧ Below w.heap.size w w'

set_option maxHeartbeats 3200000 in
set_option maxRecDepth 100000 in
theorem of10_any (kind : Int) (ax : Option Addr) (nx cx : Nat) (ay : Option Addr) (Y : List Nat) (cy : Nat) (w : World) (hy : Fls w ay Y) (h20 : Y.length ≤ 17592186044416) :
    Calls Tryz.prog 9 #[.agg #[.int .i64 kind, .slice ax nx cx, .slice ay Y.length cy]] w (OfRet kind ax nx cx Y w) := by
  have HY := Hd.mk hy
  have HF := Hd.mk hy.wf
  obtain ⟨n, hn⟩ : ∃ n, Y.length = n := ⟨_, rfl⟩
  rw [hn] at h20 ⊢
  have HN := Hd.mk hn
  obtain ⟨i0, hi, hz0, hz1, hz2⟩ := info_parts info_u64
  obtain ⟨W, hW, b1, b2, b4, b5⟩ := box_tr w kind ax nx cx ay n cy
  obtain ⟨y0, y1, y2⟩ := b1.cell
  obtain ⟨q0, q1, q2⟩ := b2.cell
  have B1 := Hd.mk b1
  have B2 := Hd.mk b2
  have B4 := Hd.mk b4
  have HS := Hd.mk b5
  clear hy hn b1 b2 b4 b5
  go_enter Tryz.func9, Tryz.ntmps9
  go_upto_region 1 with fail
  clear hW
  go_wp2_with fail
  obtain ⟨V, hV, c3, c4⟩ := box_r W kind ax nx cx none 0 0
  rw [hV]
  have VS : V.heap.size = w.heap.size + 2 + 1 := by rw [← hV]; simp [HS.out]
  rw [HS.out] at c3 ⊢
  have B3 := Hd.mk c3
  have V1 := Hd.mk (B1.out.below c4)
  have V2 := Hd.mk (B2.out.below c4)
  have V4 := Hd.mk (B4.out.trans (c4.mono B4.out.size))
  clear y0 y1 y2 q0 q1 q2 c3 c4 B1 B2 B4 hV HS
  go_loopw [4] (fun iv wr => ∃ (k : Nat) (a : Option Addr) (c : Nat), k ≤ n ∧ iv = .int .i64 k ∧ Hd (wr.ownsRow (w.heap.size + 3) 31 1 (.slice a k c) k (wds (Y.take k))) ∧ Hd (BoxT wr w.heap.size kind ax nx cx ay n cy) ∧ Hd (BoxR wr (w.heap.size + 1) 0 none 0 0 none 0 0) ∧ Hd (BoxR wr (w.heap.size + 2) kind ax nx cx a k c) ∧ Hd (Below w.heap.size w wr) ∧ w.heap.size + 3 ≤ wr.heap.size) (fun i _ => n - (intOf i).toNat)
  case atStart => exact ⟨0, none, 0, Nat.zero_le _, rfl, ⟨by simpa [wds] using World.ownsRow_nil _ _ _ _⟩, V1, V2, B3, V4, by omega⟩
  case round =>
    clear V1 V2 B3 V4 VS
    obtain ⟨k, a, c, hk, rfl, HO, B1, B2, B3, HB, hsz⟩ := hrel
    obtain ⟨y0, y1, y2⟩ := B1.out.cell
    obtain ⟨x0, x1, x2⟩ := B3.out.cell
    by_cases hlt : k < n
    · have hlt' : (k : Int) < n := by omega
      have k0 : (0 : Int) ≤ k := by omega
      obtain ⟨by_, oy, hay, c1⟩ := (HY.out.belowK HB.out).at k (by rw [HN.out]; exact hlt)
      obtain ⟨bb, oo, hay', c0⟩ := HY.out.at k (by rw [HN.out]; exact hlt)
      rw [hay] at hay'
      cases hay'
      have hlb : by_ < w.heap.size := World.block_lt_of_cell? _ _ c0
      clear c0
      subst hay
      have HT := Hd.mk (wds_take Y k (by rw [HN.out]; exact hlt))
      generalize Y.getD k 0 = y at *
      go_wp2_with fail
      have s0 : wr.drew.cell? ⟨w.heap.size, 2, none⟩ = _ := y2
      have s1 : wr.drew.cell? ⟨w.heap.size + 2, 2, none⟩ = _ := x2
      have s2 : wr.drew.cell? ⟨by_, oy + k, none⟩ = _ := c1
      have OD : Hd (wr.drew.ownsRow (w.heap.size + 3) 31 1 (.slice a k c) k (wds (Y.take k))) := ⟨HO.out⟩
      have B3D : Hd (BoxR wr.drew (w.heap.size + 2) kind ax nx cx a k c) := ⟨B3.out⟩
      have B2D : Hd (BoxR wr.drew (w.heap.size + 1) 0 none 0 0 none 0 0) := ⟨B2.out⟩
      have B1D : Hd (BoxT wr.drew w.heap.size kind ax nx cx (some ⟨by_, oy, none⟩) n cy) := ⟨B1.out⟩
      have HBD := Hd.mk HB.out.drew
      have hszd : w.heap.size + 3 ≤ wr.drew.heap.size := hsz
      have BA := Hd.mk fun o => B1D.out.below ((Below.refl _ _).alloc (Nat.le_refl _) o)
      have a2 : ∀ o, (wr.alloc o).drew.cell? ⟨w.heap.size, 2, none⟩ = some (.slice (some ⟨by_, oy, none⟩) n cy) := fun o => (BA.out o).cell.2.2
      have x2' : ∀ o, (wr.alloc o).drew.cell? ⟨w.heap.size + 2, 2, none⟩ = some (.slice a k c) := fun o => (B3D.out.alloc o).cell.2.2
      have HBc := Hd.mk fun (W' : World) (h : Below w.heap.size wr.drew W') => (h.cell (p := ⟨by_, oy + k, none⟩) hlb).trans s2
      have a3 : ∀ o, (wr.alloc o).drew.cell? ⟨by_, oy + k, none⟩ = some (.float .f64 y) := fun o => HBc.out _ ((Below.refl _ _).alloc (by omega) o)
      go_region_law (
        first
        | (go_simp; go_at_call 16; refine (apiBits_any _ _).mono ?_; rintro en w2 ⟨rfl, rfl⟩)
        | (
        refine step_append_lies _ rfl (.tmp 18) (.tmp 25) 34 rfl (w.heap.size + 3) 31 i0 (.int .u64 0) 1 8 Tryz.underlying34 hi hz0 hz1 hz2 rfl (by decide) (.slice a k c) k (wds (Y.take k)) rfl (OD.out.alloc _) ⟨wr.heap.size, 0, none⟩ 1 1 [.int .u64 y] (by rfl) rfl (by
          intro j u hj
          match j, hj with
          | 0, hj => simp at hj; subst hj; simp [Addr.add]) (by intro u hu; simp at hu; subst hu; rfl) (by decide) (by unfold maxLen; omega) (by omega) (by simp; omega) _ rfl ?_
        intro g cap w1 hown' hgrow _ _
        rw [← HT.out] at hown'
        obtain ⟨fz, x2n, HO', N1, N2, N3, NB, ns⟩ := of_step (wd := wr.drew) (o := .cells #[.int .u64 y] 31) hown' hgrow OD.out B1D.out B2D.out B3D.out HBD.out hszd
        clear hown' hgrow))
      all_goals
        clear B1D B2D B3D OD HBD BA HBc a2 x2' a3 y0 y1 y2 x0 x1 x2 c1 s0 s1 s2
        go_wp2_with fail
        exact ⟨⟨k + 1, some ⟨g, 0, none⟩, cap, by omega, by go_num, HO', N1, N2, N3, NB, ns⟩, by simp [intOf]; omega⟩
    · obtain rfl : n = k := by omega
      have hge : ¬ (n : Int) < n := by omega
      obtain ⟨r0, r1, r2⟩ := B2.out.cell
      have f0 := B2.out.frozen 0
      have f1 := B2.out.frozen 1
      have f2 := B2.out.frozen 2
      obtain ⟨W', hW', ho, hbx, hbw⟩ := of_exit (kind := kind) (ax := ax) (nx := nx) (cx := cx) HO.out B2.out HB.out
      have HO' := Hd.mk ho
      have HX := Hd.mk hbx
      have HW := Hd.mk hbw
      clear ho hbx hbw
      go_wp2_with fail
      clear hW' r0 r1 r2 f0 f1 f2 y0 y1 y2 x0 x1 x2
      obtain ⟨r0, r1, r2⟩ := HX.out.cell
      have h := HO'.out
      rw [show Y.take n = Y by rw [List.take_of_length_le (by have := HN.out; omega)]] at h
      have hr := own_room h
      exact bodyPost_ret (v := .agg #[.int .i64 kind, .slice ax nx cx, .slice a n c]) (by simp [results, Tryz.results9, go_sem, r0, r1, r2]) rfl ⟨a, c, by rw [HN.out], fun hle => by
        obtain ⟨a', c', e, hu, _⟩ := us_of_owns_room (l := Y) (by rw [HN.out]; exact h) HF.out hle
        rw [HN.out] at e
        cases e
        exact hu, by rw [HN.out]; exact hr, HW.out⟩

end Go.Proofs.YtmmcnjoeepgpgaaGreat
