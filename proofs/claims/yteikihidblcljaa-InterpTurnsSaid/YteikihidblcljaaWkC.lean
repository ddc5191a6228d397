/- The walk of tenorlaw10.turned: a table with all values times a number. -/
import Derived.Test.YteikihidblcljaaWjC
import Derived.Test.YteikihidblcljaaM12
import Derived.Test.YteikihidblcljaaM11
import Derived.Deep.AppendLies
import Derived.Deep.RegionLaw
namespace Go.Proofs.Yteikihidblcljaa
open Go.RowKit
set_option linter.unusedSimpArgs false
set_option linter.unusedVariables false

theorem BoxT.lies {w : World} {b : Nat} {kind : Int} {ax : Option Addr} {nx cx : Nat} {ay : Option Addr} {ny cy : Nat} (h : BoxT w b kind ax nx cx ay ny cy) (o : Nat) : w.frozen? ⟨b, o, none⟩ = false := by
  unfold BoxT at h
  simp [World.frozen?, h]
theorem BoxT.belowN {B : Nat} {w w' : World} {b : Nat} {kind : Int} {ax : Option Addr} {nx cx : Nat} {ay : Option Addr} {ny cy : Nat} (h : BoxT w b kind ax nx cx ay ny cy) (hb : Below B w w') (hB : b < B) : BoxT w' b kind ax nx cx ay ny cy := (hb.block b hB).trans h
theorem set_rowT {w : World} {b : Nat} {cs : Array Value} {t : TypeId} {r : Nat × Nat} {i : Nat} {v : Value} (h : w.heap[b]? = some (.cells cs t r)) : (w.setCell ⟨b, i, none⟩ v).heap[b]? = some (.cells (cs.setIfInBounds i v) t r) := by
  unfold World.setCell
  simp only [Array.getElem?_modify, h]
  simp
theorem BoxT.setY {w : World} {b : Nat} {kind : Int} {ax : Option Addr} {nx cx : Nat} {ay : Option Addr} {ny cy : Nat} (h : BoxT w b kind ax nx cx ay ny cy) (ay' : Option Addr) (ny' cy' : Nat) : BoxT (w.setCell ⟨b, 2, none⟩ (.slice ay' ny' cy')) b kind ax nx cx ay' ny' cy' := by
  unfold BoxT at *
  rw [set_rowT h]
  rfl
theorem BoxT.setA {w : World} {b : Nat} {kind : Int} {ax : Option Addr} {nx cx : Nat} {ay : Option Addr} {ny cy : Nat} (h : BoxT w b kind ax nx cx ay ny cy) (kind' : Int) (ax' : Option Addr) (nx' cx' : Nat) (ay' : Option Addr) (ny' cy' : Nat) :
    BoxT (((w.setCell ⟨b, 0, none⟩ (.int .i64 kind')).setCell ⟨b, 1, none⟩ (.slice ax' nx' cx')).setCell ⟨b, 2, none⟩ (.slice ay' ny' cy')) b kind' ax' nx' cx' ay' ny' cy' := by
  unfold BoxT at *
  rw [set_rowT (set_rowT (set_rowT h))]
  rfl
theorem box_tt (w : World) (kind : Int) (ax : Option Addr) (nx cx : Nat) (ay : Option Addr) (ny cy : Nat) :
    ∃ W, ((w.alloc (.cells #[.int .i64 kind, .slice ax nx cx, .slice ay ny cy] 60)).alloc (.cells #[.int .i64 0, .slice none 0 0, .slice none 0 0] 60)) = W ∧
      BoxT W w.heap.size kind ax nx cx ay ny cy ∧ BoxT W (w.heap.size + 1) 0 none 0 0 none 0 0 ∧ Below w.heap.size w W ∧ W.heap.size = w.heap.size + 2 := by
  refine ⟨_, rfl, ?_, ?_, (((Below.refl _ _).alloc (Nat.le_refl _) _).alloc (World.alloc_size_le _ _) _), by simp⟩
  · unfold BoxT World.alloc; (try simp [Array.getElem?_push, Array.getElem_push]); all_goals (try omega)
  · unfold BoxT World.alloc; simp [Array.getElem?_push, Array.getElem_push]
theorem own_roomT {w : World} {base : Nat} {t : TypeId} {a : Option Addr} {n c : Nat} {xs : List Value} (h : w.ownsRow base t 1 (.slice a n c) n xs) (h1 : 1 ≤ n) : Room a n c := by
  obtain ⟨_, ⟨e, h0⟩ | ⟨g, cap, cur, e, _, _, h1, h2, _⟩⟩ := h
  · omega
  · simp only [Value.slice.injEq] at e
    obtain ⟨e1, e2, e3⟩ := e
    rw [e3, e1]
    exact ⟨h1, Nat.le_trans h2 (by unfold maxLen; decide), fun e => by cases e⟩

/-- The world behind an append into the table's own row. -/
theorem tn_step {w wd w1 : World} {o : Obj} {kind : Int} {ax : Option Addr} {nx cx n cy : Nat} {ay a : Option Addr} {k c g cap : Nat} {xs ys : List Value}
    (hown' : w1.ownsRow (w.heap.size + 3) 28 1 (.slice (some ⟨g, 0, none⟩) (k + 1) cap) (k + 1) ys) (hgrow : (wd.alloc o).grownBy w1 (Value.slice a k c).ownBlock)
    (OD : wd.ownsRow (w.heap.size + 3) 28 1 (.slice a k c) k xs) (B1D : BoxT wd w.heap.size kind ax nx cx ay n cy) (B2D : BoxT wd (w.heap.size + 1) 0 none 0 0 none 0 0)
    (B3D : BoxT wd (w.heap.size + 2) kind ax nx cx a k c) (HBD : Below w.heap.size w wd) (hszd : w.heap.size + 3 ≤ wd.heap.size) :
    w1.frozen? ⟨w.heap.size + 2, 2, none⟩ = false ∧ w1.cell? ⟨w.heap.size + 2, 2, none⟩ = some (.slice a k c) ∧
    Hd ((w1.setCell ⟨w.heap.size + 2, 2, none⟩ (.slice (some ⟨g, 0, none⟩) (k + 1) cap)).ownsRow (w.heap.size + 3) 28 1 (.slice (some ⟨g, 0, none⟩) (k + 1) cap) (k + 1) ys) ∧
    Hd (BoxT (w1.setCell ⟨w.heap.size + 2, 2, none⟩ (.slice (some ⟨g, 0, none⟩) (k + 1) cap)) w.heap.size kind ax nx cx ay n cy) ∧
    Hd (BoxT (w1.setCell ⟨w.heap.size + 2, 2, none⟩ (.slice (some ⟨g, 0, none⟩) (k + 1) cap)) (w.heap.size + 1) 0 none 0 0 none 0 0) ∧
    Hd (BoxT (w1.setCell ⟨w.heap.size + 2, 2, none⟩ (.slice (some ⟨g, 0, none⟩) (k + 1) cap)) (w.heap.size + 2) kind ax nx cx (some ⟨g, 0, none⟩) (k + 1) cap) ∧
    Hd (Below w.heap.size w (w1.setCell ⟨w.heap.size + 2, 2, none⟩ (.slice (some ⟨g, 0, none⟩) (k + 1) cap))) ∧
    w.heap.size + 3 ≤ (w1.setCell ⟨w.heap.size + 2, 2, none⟩ (.slice (some ⟨g, 0, none⟩) (k + 1) cap)).heap.size := by
  have HG : Below (w.heap.size + 3) wd w1 := ((Below.refl _ _).alloc hszd _).grown hgrow (by have := World.alloc_size_le wd o; omega) (owns_block OD)
  have G1 := B1D.belowN HG (by omega)
  have G2 := B2D.belowN HG (by omega)
  have G3 := B3D.belowN HG (by omega)
  have GB := HBD.trans (HG.mono (by omega))
  have gs : w.heap.size + 3 ≤ w1.heap.size := Nat.le_trans hszd HG.size
  refine ⟨G3.lies _, G3.cell.2.2, ⟨ownsRow_setCell_below hown' (a := ⟨w.heap.size + 2, 2, none⟩) (by show w.heap.size + 2 < _; omega) _⟩, ⟨?_⟩, ⟨?_⟩, ⟨G3.setY (some ⟨g, 0, none⟩) (k + 1) cap⟩, ⟨GB.setCell (p := ⟨w.heap.size + 2, 2, none⟩) (by show _ ≤ w.heap.size + 2; omega) _⟩, ?_⟩
  · exact (Below.heap_setCell w1 ⟨w.heap.size + 2, 2, none⟩ (.slice (some ⟨g, 0, none⟩) (k + 1) cap) w.heap.size (by show w.heap.size ≠ w.heap.size + 2; omega)).trans G1
  · exact (Below.heap_setCell w1 ⟨w.heap.size + 2, 2, none⟩ (.slice (some ⟨g, 0, none⟩) (k + 1) cap) (w.heap.size + 1) (by show w.heap.size + 1 ≠ w.heap.size + 2; omega)).trans G2
  · simp [World.setCell]; exact gs
/-- The world behind the result's store. -/
theorem tn_exit {w wr : World} {kind : Int} {ax : Option Addr} {nx cx : Nat} {a : Option Addr} {n c : Nat} {xs : List Value}
    (OD : wr.ownsRow (w.heap.size + 3) 28 1 (.slice a n c) n xs) (B2D : BoxT wr (w.heap.size + 1) 0 none 0 0 none 0 0) (HBD : Below w.heap.size w wr) :
    ∃ W', (((wr.setCell ⟨w.heap.size + 1, 0, none⟩ (.int .i64 kind)).setCell ⟨w.heap.size + 1, 1, none⟩ (.slice ax nx cx)).setCell ⟨w.heap.size + 1, 2, none⟩ (.slice a n c)) = W' ∧
      W'.ownsRow (w.heap.size + 3) 28 1 (.slice a n c) n xs ∧ BoxT W' (w.heap.size + 1) kind ax nx cx a n c ∧ Below w.heap.size w W' := by
  have e : ∀ o, (⟨w.heap.size + 1, o, none⟩ : Addr).block < w.heap.size + 3 := fun o => by show w.heap.size + 1 < _; omega
  have e' : ∀ o, w.heap.size ≤ (⟨w.heap.size + 1, o, none⟩ : Addr).block := fun o => by show _ ≤ w.heap.size + 1; omega
  exact ⟨_, rfl, ownsRow_setCell_below (ownsRow_setCell_below (ownsRow_setCell_below OD (e _) _) (e _) _) (e _) _, B2D.setA _ _ _ _ _ _ _, ((HBD.setCell (e' _) _).setCell (e' _) _).setCell (e' _) _⟩

/-- A list times a number, as cells. -/
def mulV (m : Nat) (Y : List Nat) : List Value := (Y.map (fmul m)).map (Value.float .f64)
theorem mulV_take (m : Nat) (Y : List Nat) (k : Nat) (h : k < Y.length) : mulV m (Y.take (k + 1)) = mulV m (Y.take k) ++ [.float .f64 (fmul m (Y.getD k 0))] := by
  have : Y.take (k + 1) = Y.take k ++ [Y.getD k 0] := by
    rw [List.take_succ_eq_append_getElem h, List.getD_eq_getElem?_getD, List.getElem?_eq_getElem h]; rfl
  unfold mulV
  rw [this]
  simp
theorem F64_mulY (m : Nat) (Y : List Nat) (i : Nat) : F64 ((Y.map (fmul m)).getD i 0) := by
  rw [List.getD_eq_getElem?_getD, List.getElem?_map]
  cases Y[i]? with
  | none => exact ⟨by show 0 < 18446744073709551616; decide⟩
  | some v => exact F64_fmul _ _
theorem fres_mulT {x y : Nat} (hx : F64 x) (hy : F64 y) (fx : fin x = true) (fy : fin y = true) (w : World) : fres .mul x y w = fmul x y := by
  have h := cn_fmul x y w hx hy
  rw [cn_of _ (nn_fin _ fx), cn_of _ (nn_fin _ fy)] at h
  have hn := (rk_fmul x y hx hy fx fy).2
  rw [← h] at hn
  rw [cn_of _ (by rw [nn_cn] at hn; exact hn)] at h
  exact h
theorem fcnt_mulT {x y : Nat} (hx : F64 x) (hy : F64 y) (fx : fin x = true) (fy : fin y = true) (w : World) : w.drewN (fcnt .mul x y) = w := by
  have h : fcnt .mul x y = 0 := by
    unfold fcnt
    split
    · rfl
    · rename_i h
      have h1 := (fres_none w h).2
      rw [fres_mulT hx hy fx fy w, (rk_fmul x y hx hy fx fy).2] at h1
      cases h1
  rw [h]
  rfl
/-- It returns a table whose values are the products. -/
def TurnRet (m : Nat) (kind : Int) (ax : Option Addr) (nx cx : Nat) (Y : List Nat) (w : World) (e : Ending) (w' : World) : Prop :=
  ∃ au cu, e = .returned (.agg #[.int .i64 kind, .slice ax nx cx, .slice au Y.length cu]) ∧ Fls w' au (Y.map (fmul m)) ∧ Room au Y.length cu ∧ Below w.heap.size w w'

set_option maxHeartbeats 6400000 in
set_option maxRecDepth 100000 in
theorem turned10_any (m : Nat) (kind : Int) (ax : Option Addr) (nx cx : Nat) (ay : Option Addr) (Y : List Nat) (cy : Nat) (w : World) (hy : Fls w ay Y) (h1 : 1 ≤ Y.length) (h20 : Y.length ≤ 1000) (hm : F64 m) (fm : fin m = true) (hf : ∀ i, i < Y.length → fin (Y.getD i 0) = true) :
    Calls Try.prog 32 #[.agg #[.int .i64 kind, .slice ax nx cx, .slice ay Y.length cy], .float .f64 m] w (TurnRet m kind ax nx cx Y w) := by
  have HY := Hd.mk hy
  have HF := Hd.mk hy.wf
  have HM := Hd.mk fun k (hk : k < Y.length) w' => And.intro (fres_mulT hm (hy.wf k) fm (hf k hk) w') (fcnt_mulT hm (hy.wf k) fm (hf k hk) w')
  obtain ⟨n, hn⟩ : ∃ n, Y.length = n := ⟨_, rfl⟩
  have HR : Hd (∀ e w', (∃ au cu, e = .returned (.agg #[.int .i64 kind, .slice ax nx cx, .slice au n cu]) ∧ Fls w' au (Y.map (fmul m)) ∧ Room au n cu ∧ Below w.heap.size w w') → TurnRet m kind ax nx cx Y w e w') := ⟨fun e w' h => by unfold TurnRet; rw [hn]; exact h⟩
  rw [hn] at h20 h1 ⊢
  have HN := Hd.mk hn
  obtain ⟨i0, hi, hz0, hz1, hz2⟩ := info_parts info_f64r
  obtain ⟨W, hW, b1, b2, b4, b5⟩ := box_tt w kind ax nx cx ay n cy
  obtain ⟨y0, y1, y2⟩ := b1.cell
  obtain ⟨q0, q1, q2⟩ := b2.cell
  have B1 := Hd.mk b1
  have B2 := Hd.mk b2
  have B4 := Hd.mk b4
  have HS := Hd.mk b5
  clear hy hn b1 b2 b4 b5 hf hm fm
  go_enter Try.func32, Try.ntmps32
  go_upto_region 1 with fail
  clear hW
  go_wp2_with fail
  obtain ⟨V, hV, c3, c4⟩ := box_t W kind ax nx cx none 0 0
  rw [hV]
  have VS : V.heap.size = w.heap.size + 2 + 1 := by rw [← hV]; simp [HS.out]
  rw [HS.out] at c3 ⊢
  have B3 := Hd.mk c3
  have V1 := Hd.mk (B1.out.below c4)
  have V2 := Hd.mk (B2.out.below c4)
  have V4 := Hd.mk (B4.out.trans (c4.mono B4.out.size))
  clear y0 y1 y2 q0 q1 q2 c3 c4 B1 B2 B4 hV HS
  go_loopw [6] (fun iv wr => ∃ (k : Nat) (a : Option Addr) (c : Nat), k ≤ n ∧ iv = .int .i64 k ∧ Hd (wr.ownsRow (w.heap.size + 3) 28 1 (.slice a k c) k (mulV m (Y.take k))) ∧ Hd (BoxT wr w.heap.size kind ax nx cx ay n cy) ∧ Hd (BoxT wr (w.heap.size + 1) 0 none 0 0 none 0 0) ∧ Hd (BoxT wr (w.heap.size + 2) kind ax nx cx a k c) ∧ Hd (Below w.heap.size w wr) ∧ w.heap.size + 3 ≤ wr.heap.size) (fun i _ => n - (intOf i).toNat)
  case atStart => exact ⟨0, none, 0, Nat.zero_le _, rfl, ⟨by simpa [mulV] using World.ownsRow_nil _ _ _ _⟩, V1, V2, B3, V4, by omega⟩
  case round =>
    clear V1 V2 B3 V4 VS
    obtain ⟨k, a, c, hk, rfl, HO, B1, B2, B3, HB, hsz⟩ := hrel
    obtain ⟨y0, y1, y2⟩ := B1.out.cell
    obtain ⟨x0, x1, x2⟩ := B3.out.cell
    by_cases hlt : k < n
    · have hlt' : (k : Int) < n := by omega
      have k0 : (0 : Int) ≤ k := by omega
      obtain ⟨by_, oy, hay, c1⟩ := (HY.out.belowK HB.out).at k (by rw [HN.out]; exact hlt)
      obtain ⟨bb, oo, hay', c0⟩ := HY.out.at k (by rw [HN.out]; exact hlt)
      rw [hay] at hay'
      cases hay'
      have hlb : by_ < w.heap.size := World.block_lt_of_cell? _ _ c0
      clear c0
      subst hay
      have HT := Hd.mk (mulV_take m Y k (by rw [HN.out]; exact hlt))
      have HMk := HM.out k (by rw [HN.out]; exact hlt)
      generalize Y.getD k 0 = y at *
      have hm1 : ∀ w' : World, fres .mul m y w' = fmul m y := fun w' => (HMk w').1
      have hm2 : ∀ w' : World, w'.drewN (fcnt .mul m y) = w' := fun w' => (HMk w').2
      clear HMk
      generalize fmul m y = P at *
      go_wp2_with fail
      have s0 : wr.drew.cell? ⟨w.heap.size, 2, none⟩ = _ := y2
      have s1 : wr.drew.cell? ⟨w.heap.size + 2, 2, none⟩ = _ := x2
      have s2 : wr.drew.cell? ⟨by_, oy + k, none⟩ = _ := c1
      have OD : Hd (wr.drew.ownsRow (w.heap.size + 3) 28 1 (.slice a k c) k (mulV m (Y.take k))) := ⟨HO.out⟩
      have B3D : Hd (BoxT wr.drew (w.heap.size + 2) kind ax nx cx a k c) := ⟨B3.out⟩
      have B2D : Hd (BoxT wr.drew (w.heap.size + 1) 0 none 0 0 none 0 0) := ⟨B2.out⟩
      have B1D : Hd (BoxT wr.drew w.heap.size kind ax nx cx (some ⟨by_, oy, none⟩) n cy) := ⟨B1.out⟩
      have HBD := Hd.mk HB.out.drew
      have hszd : w.heap.size + 3 ≤ wr.drew.heap.size := hsz
      have BA := Hd.mk fun o => B1D.out.below ((Below.refl _ _).alloc (Nat.le_refl _) o)
      have a2 : ∀ o, (wr.alloc o).drew.cell? ⟨w.heap.size, 2, none⟩ = some (.slice (some ⟨by_, oy, none⟩) n cy) := fun o => (BA.out o).cell.2.2
      have x2' : ∀ o, (wr.alloc o).drew.cell? ⟨w.heap.size + 2, 2, none⟩ = some (.slice a k c) := fun o => (B3D.out.alloc o).cell.2.2
      have HBc := Hd.mk fun (W' : World) (h : Below w.heap.size wr.drew W') => (h.cell (p := ⟨by_, oy + k, none⟩) hlb).trans s2
      have a3 : ∀ o, (wr.alloc o).drew.cell? ⟨by_, oy + k, none⟩ = some (.float .f64 y) := fun o => HBc.out _ ((Below.refl _ _).alloc (by omega) o)
      go_region_law (
        refine step_append_lies _ rfl (.tmp 20) (.tmp 28) 58 rfl (w.heap.size + 3) 28 i0 (.float .f64 0) 1 8 Try.underlying58 hi hz0 hz1 hz2 rfl (by decide) (.slice a k c) k (mulV m (Y.take k)) rfl (OD.out.alloc _) ⟨wr.heap.size, 0, none⟩ 1 1 [.float .f64 P] (by rfl) rfl (by
          intro j u hj
          match j, hj with
          | 0, hj => simp at hj; subst hj; simp [Addr.add]) (by intro u hu; simp at hu; subst hu; rfl) (by decide) (by unfold maxLen; omega) (by omega) (by simp; omega) _ rfl ?_
        intro g cap w1 hown' hgrow _ _
        rw [← HT.out] at hown'
        obtain ⟨fz, x2n, HO', N1, N2, N3, NB, ns⟩ := tn_step (wd := wr.drew) (o := .cells #[.float .f64 P] 28) hown' hgrow OD.out B1D.out B2D.out B3D.out HBD.out hszd
        clear hown' hgrow)
      all_goals
        clear B1D B2D B3D OD HBD BA HBc a2 x2' a3 y0 y1 y2 x0 x1 x2 c1 s0 s1 s2
        go_wp2_with fail
        exact ⟨⟨k + 1, some ⟨g, 0, none⟩, cap, by omega, by go_num, HO', N1, N2, N3, NB, ns⟩, by simp [intOf]; omega⟩
    · obtain rfl : n = k := by omega
      have hge : ¬ (n : Int) < n := by omega
      obtain ⟨r0, r1, r2⟩ := B2.out.cell
      have f0 := B2.out.lies 0
      have f1 := B2.out.lies 1
      have f2 := B2.out.lies 2
      obtain ⟨W', hW', ho, hbx, hbw⟩ := tn_exit (kind := kind) (ax := ax) (nx := nx) (cx := cx) HO.out B2.out HB.out
      have HO' := Hd.mk ho
      have HX := Hd.mk hbx
      have HW := Hd.mk hbw
      have HN1 := Hd.mk h1
      clear ho hbx hbw
      go_wp2_with fail
      clear hW' r0 r1 r2 f0 f1 f2 y0 y1 y2 x0 x1 x2
      obtain ⟨r0, r1, r2⟩ := HX.out.cell
      have h := HO'.out
      rw [show Y.take n = Y by rw [List.take_of_length_le (by have := HN.out; omega)]] at h
      have hr := own_roomT h HN1.out
      exact bodyPost_ret (v := .agg #[.int .i64 kind, .slice ax nx cx, .slice a n c]) (by simp [results, Try.results32, go_sem, r0, r1, r2]) rfl (HR.out _ _ ⟨a, c, rfl, by
        obtain ⟨g, cap, e, _, hrow⟩ := FRow.of_own (m := Y.map (fmul m)) h (F64_mulY m Y) (fun e => by cases e; have := HN1.out; omega)
        cases e
        exact hrow.fls, hr, HW.out⟩)

end Go.Proofs.Yteikihidblcljaa
