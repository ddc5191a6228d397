/- The walk of the reference's Of (tenorref11): a curve's factors as words. -/
import Derived.Test.YteikihidblcljaaQgC
import Derived.Test.YteikihidblcljaaNlC
namespace Go.Proofs.Yteikihidblcljaa
open Go.RowKit
set_option linter.unusedSimpArgs false
set_option linter.unusedVariables false

/-- A block that holds the reference's curve. -/
def BoxV (w : World) (b : Nat) (ba kind : Int) (ax : Option Addr) (nx cx : Nat) (ay : Option Addr) (ny cy : Nat) : Prop := w.heap[b]? = some (.cells #[.int .i64 ba, .int .i64 kind, .slice ax nx cx, .slice ay ny cy] 84 (0, 0))
theorem BoxV.cell {w : World} {b : Nat} {ba kind : Int} {ax : Option Addr} {nx cx : Nat} {ay : Option Addr} {ny cy : Nat} (h : BoxV w b ba kind ax nx cx ay ny cy) :
    w.cell? ⟨b, 0, none⟩ = some (.int .i64 ba) ∧ w.cell? ⟨b, 1, none⟩ = some (.int .i64 kind) ∧ w.cell? ⟨b, 2, none⟩ = some (.slice ax nx cx) ∧ w.cell? ⟨b, 3, none⟩ = some (.slice ay ny cy) := by
  unfold BoxV at h
  refine ⟨?_, ?_, ?_, ?_⟩ <;> simp [World.cell?, h]
theorem BoxV.lies {w : World} {b : Nat} {ba kind : Int} {ax : Option Addr} {nx cx : Nat} {ay : Option Addr} {ny cy : Nat} (h : BoxV w b ba kind ax nx cx ay ny cy) (o : Nat) : w.frozen? ⟨b, o, none⟩ = false := by
  unfold BoxV at h
  simp [World.frozen?, h]
theorem BoxV.lt {w : World} {b : Nat} {ba kind : Int} {ax : Option Addr} {nx cx : Nat} {ay : Option Addr} {ny cy : Nat} (h : BoxV w b ba kind ax nx cx ay ny cy) : b < w.heap.size := by
  unfold BoxV at h
  exact (Array.getElem?_eq_some_iff.1 h).1
theorem BoxV.below {w w' : World} {b : Nat} {ba kind : Int} {ax : Option Addr} {nx cx : Nat} {ay : Option Addr} {ny cy : Nat} (h : BoxV w b ba kind ax nx cx ay ny cy) (hb : Below w.heap.size w w') : BoxV w' b ba kind ax nx cx ay ny cy := (hb.block b h.lt).trans h
theorem BoxV.belowN {B : Nat} {w w' : World} {b : Nat} {ba kind : Int} {ax : Option Addr} {nx cx : Nat} {ay : Option Addr} {ny cy : Nat} (h : BoxV w b ba kind ax nx cx ay ny cy) (hb : Below B w w') (hB : b < B) : BoxV w' b ba kind ax nx cx ay ny cy := (hb.block b hB).trans h
theorem BoxV.set4 {w : World} {b : Nat} {ba kind : Int} {ax : Option Addr} {nx cx : Nat} {ay : Option Addr} {ny cy : Nat} (h : BoxV w b ba kind ax nx cx ay ny cy) (ba' kind' : Int) (ax' : Option Addr) (nx' cx' : Nat) (ay' : Option Addr) (ny' cy' : Nat) :
    BoxV ((((w.setCell ⟨b, 0, none⟩ (.int .i64 ba')).setCell ⟨b, 1, none⟩ (.int .i64 kind')).setCell ⟨b, 2, none⟩ (.slice ax' nx' cx')).setCell ⟨b, 3, none⟩ (.slice ay' ny' cy')) b ba' kind' ax' nx' cx' ay' ny' cy' := by
  unfold BoxV at *
  rw [set_rowQ (set_rowQ (set_rowQ (set_rowQ h)))]
  rfl
theorem BoxV.set1 {w : World} {b : Nat} {ba kind : Int} {ax : Option Addr} {nx cx : Nat} {ay : Option Addr} {ny cy : Nat} (h : BoxV w b ba kind ax nx cx ay ny cy) (ay' : Option Addr) (ny' cy' : Nat) :
    BoxV (w.setCell ⟨b, 3, none⟩ (.slice ay' ny' cy')) b ba kind ax nx cx ay' ny' cy' := by
  unfold BoxV at *
  rw [set_rowQ h]
  rfl
theorem box_v (w : World) (ba kind : Int) (ax : Option Addr) (nx cx : Nat) (ay : Option Addr) (ny cy : Nat) :
    ∃ W, (w.alloc (.cells #[.int .i64 ba, .int .i64 kind, .slice ax nx cx, .slice ay ny cy] 84)) = W ∧ BoxV W w.heap.size ba kind ax nx cx ay ny cy ∧ Below w.heap.size w W := by
  refine ⟨_, rfl, ?_, ((Below.refl _ _).alloc (Nat.le_refl _) _)⟩
  unfold BoxV World.alloc; simp [Array.getElem?_push]
theorem box_cv (w : World) (ba kind : Int) (ax : Option Addr) (nx cx : Nat) (ay : Option Addr) (ny cy : Nat) :
    ∃ W, ((w.alloc (.cells #[.int .i64 ba, .int .i64 kind, .slice ax nx cx, .slice ay ny cy] 82)).alloc (.cells #[.int .i64 0, .int .i64 0, .slice none 0 0, .slice none 0 0] 84)) = W ∧
      BoxC W w.heap.size ba kind ax nx cx ay ny cy ∧ BoxV W (w.heap.size + 1) 0 0 none 0 0 none 0 0 ∧ Below w.heap.size w W ∧ W.heap.size = w.heap.size + 2 := by
  refine ⟨_, rfl, ?_, ?_, (((Below.refl _ _).alloc (Nat.le_refl _) _).alloc (World.alloc_size_le _ _) _), by simp⟩
  · unfold BoxC World.alloc; (try simp [Array.getElem?_push, Array.getElem_push]); all_goals (try omega)
  · unfold BoxV World.alloc; simp [Array.getElem?_push, Array.getElem_push]
theorem own_roomQ {w : World} {base : Nat} {t : TypeId} {a : Option Addr} {n c : Nat} {xs : List Value} (h : w.ownsRow base t 1 (.slice a n c) n xs) : n ≤ c ∧ c ≤ 9223372036854775807 := by
  obtain ⟨_, ⟨e, h0⟩ | ⟨g, cap, cur, e, _, _, h1, h2, _⟩⟩ := h
  · simp only [Value.slice.injEq] at e
    obtain ⟨_, e2, e3⟩ := e
    omega
  · simp only [Value.slice.injEq] at e
    obtain ⟨_, e2, e3⟩ := e
    rw [e3]
    exact ⟨h1, Nat.le_trans h2 (by unfold maxLen; decide)⟩

theorem news1c {w : World} {g : Nat} {u : Value} (h : w.cell? ⟨g, 0, none⟩ = some u) : ∀ j v, [u][j]? = some v → w.cell? ((⟨g, 0, none⟩ : Addr).add j) = some v := by
  intro j v hj
  match j, hj with
  | 0, hj => simp at hj; subst hj; simpa [Addr.add] using h
/-- What Of keeps: a row of words of its own; the box with it. -/
structure OfS (B : Nat) (w3 wr : World) (ba kind : Int) (ax : Option Addr) (nx cx : Nat) (Y : List Nat) (k : Nat) (a : Option Addr) (c : Nat) : Prop where
  ow : wr.ownsRow (B + 1) 39 1 (.slice a k c) k (wds (Y.take k))
  bx : BoxV wr B ba kind ax nx cx a k c
  fr : Below B w3 wr
  hb : B + 1 ≤ wr.heap.size
theorem OfS.next {B : Nat} {w3 wd w1 : World} {o : Obj} {ba kind : Int} {ax : Option Addr} {nx cx : Nat} {Y : List Nat} {k g cap : Nat} {a : Option Addr} {c : Nat} {ys : List Value} (h : OfS B w3 wd ba kind ax nx cx Y k a c)
    (ho : w1.ownsRow (B + 1) 39 1 (.slice (some ⟨g, 0, none⟩) (k + 1) cap) (k + 1) ys) (hg : (wd.alloc o).grownBy w1 (Value.slice a k c).ownBlock) (hy : wds (Y.take (k + 1)) = ys) :
    BoxV w1 B ba kind ax nx cx a k c ∧ ∃ W', w1.setCell ⟨B, 3, none⟩ (.slice (some ⟨g, 0, none⟩) (k + 1) cap) = W' ∧ OfS B w3 W' ba kind ax nx cx Y (k + 1) (some ⟨g, 0, none⟩) cap := by
  have HG : Below (B + 1) wd w1 := ((Below.refl _ _).alloc h.hb o).grown hg (by have := World.alloc_size_le wd o; have := h.hb; omega) (owns_block h.ow)
  have hbx := h.bx.belowN HG (Nat.lt_succ_self B)
  refine ⟨hbx, _, rfl, ?_, hbx.set1 _ _ _, (h.fr.trans (HG.mono (Nat.le_succ B))).setCell (p := ⟨B, 3, none⟩) (Nat.le_refl _) _, ?_⟩
  · rw [hy]
    exact ownsRow_setCell_below ho (a := ⟨B, 3, none⟩) (Nat.lt_succ_self B) _
  · have := Nat.le_trans h.hb HG.size
    simpa [World.setCell] using this

/-- It returns the reference's curve of a curve. -/
def OfCRet (ba kind : Int) (ax : Option Addr) (nx cx : Nat) (Y : List Nat) (w : World) (e : Ending) (w' : World) : Prop :=
  ∃ au cu, e = .returned (.agg #[.int .i64 ba, .int .i64 kind, .slice ax nx cx, .slice au Y.length cu]) ∧ Us w' au Y ∧ (Y.length ≤ cu ∧ cu ≤ 9223372036854775807) ∧ Below w.heap.size w w'

set_option maxHeartbeats 6400000 in
set_option maxRecDepth 100000 in
theorem of11_any (ba kind : Int) (ax : Option Addr) (nx cx : Nat) (ay : Option Addr) (Y : List Nat) (cy : Nat) (w : World) (hy : Fls w ay Y) (h20 : Y.length ≤ 1000) :
    Calls Try.prog 41 #[.agg #[.int .i64 ba, .int .i64 kind, .slice ax nx cx, .slice ay Y.length cy]] w (OfCRet ba kind ax nx cx Y w) := by
  have HY := Hd.mk hy
  have HF := Hd.mk hy.wf
  have HR : Hd (∀ e w', (∃ au cu, e = .returned (.agg #[.int .i64 ba, .int .i64 kind, .slice ax nx cx, .slice au Y.length cu]) ∧ Us w' au Y ∧ (Y.length ≤ cu ∧ cu ≤ 9223372036854775807) ∧ Below w.heap.size w w') → OfCRet ba kind ax nx cx Y w e w') := ⟨fun e w' h => h⟩
  obtain ⟨n, hn⟩ : ∃ n, Y.length = n := ⟨_, rfl⟩
  rw [hn] at h20 HR ⊢
  have HN := Hd.mk hn
  obtain ⟨i0, hi, hz0, hz1, hz2⟩ := info_parts info_u64
  obtain ⟨W, hW, b1, b2, b4, b5⟩ := box_cv w ba kind ax nx cx ay n cy
  obtain ⟨y0, y1, y2, y3⟩ := b1.cell
  have HWh := Hd.mk hW
  have B1 := Hd.mk b1
  have B2 := Hd.mk b2
  have B4 := Hd.mk b4
  have HS := Hd.mk b5
  clear hy hn b1 b2 b4 b5 hW
  go_enter Try.func41, Try.ntmps41
  go_upto_region 1 with fail
  rw [HWh.out]
  clear HWh
  obtain ⟨V, hV, c3, c4⟩ := box_v W ba kind ax nx cx none 0 0
  have hVs : V.heap.size = W.heap.size + 1 := by rw [← hV]; simp
  have HV := Hd.mk hV
  have OS0 : Hd (OfS W.heap.size W V ba kind ax nx cx Y 0 none 0) := ⟨⟨by simpa [wds] using World.ownsRow_nil _ _ _ _, c3, c4, by omega⟩⟩
  have hW2 : w.heap.size + 1 < W.heap.size := by have := HS.out; omega
  have HBW : Hd (∀ wr, Below W.heap.size W wr → Below w.heap.size w wr) := ⟨fun wr h => B4.out.trans (h.mono B4.out.size)⟩
  clear hV c3 c4 hVs
  go_upto_region 2 with fail
  rw [HV.out]
  clear HV y0 y1 y2 y3
  go_wp2_with fail
  go_loopw [4] (fun iv wr => ∃ (k : Nat) (a : Option Addr) (c : Nat), k ≤ n ∧ iv = .int .i64 k ∧ Hd (OfS W.heap.size W wr ba kind ax nx cx Y k a c)) (fun i _ => n - (intOf i).toNat)
  case atStart => exact ⟨0, none, 0, Nat.zero_le _, rfl, OS0⟩
  case round =>
    clear OS0 V
    obtain ⟨k, a, c, hk, rfl, HO⟩ := hrel
    obtain ⟨y0, y1, y2, y3⟩ := (B1.out.belowN HO.out.fr (by omega)).cell
    by_cases hlt : k < n
    · have hlt' : (k : Int) < n := by omega
      have k0 : (0 : Int) ≤ k := by omega
      obtain ⟨by_, oy, hay, c1⟩ := (HY.out.belowK (HBW.out _ HO.out.fr)).at k (by rw [HN.out]; exact hlt)
      obtain ⟨bb, oo, hay', c0⟩ := HY.out.at k (by rw [HN.out]; exact hlt)
      rw [hay] at hay'
      cases hay'
      have hlb : by_ < W.heap.size := by
        have h1 := World.block_lt_of_cell? _ _ c0
        have h2 : by_ < w.heap.size := h1
        omega
      clear c0
      subst hay
      have HT := Hd.mk (wds_take Y k (by rw [HN.out]; exact hlt))
      have fy := HF.out k
      generalize Y.getD k 0 = y at *
      have HBit := Hd.mk (apiBits_any y)
      have HMx : Hd (k + 1 ≤ maxLen ∧ (k + 1) * 8 ≤ 140737488355328) := ⟨by unfold maxLen; omega, by omega⟩
      go_wp2_with fail
      obtain ⟨wd, hwd⟩ : ∃ wd, wr.drew = wd := ⟨_, rfl⟩
      have OD : Hd (OfS W.heap.size W wd ba kind ax nx cx Y k a c) := ⟨by rw [← hwd]; exact ⟨HO.out.ow, HO.out.bx, HO.out.fr.drew, HO.out.hb⟩⟩
      have s1 := (B1.out.belowN OD.out.fr (by omega)).cell.2.2.2
      have s2 := OD.out.bx.cell.2.2.2
      have s3 : wd.cell? ⟨by_, oy + k, none⟩ = some (.float .f64 y) := by rw [← hwd]; exact c1
      have hS := And.intro s1 (And.intro s2 s3)
      have HSn : Hd (∀ w', Below (W.heap.size + 1) wd w' → w'.cell? ⟨w.heap.size, 3, none⟩ = some (.slice (some ⟨by_, oy, none⟩) n cy) ∧ w'.cell? ⟨W.heap.size, 3, none⟩ = some (.slice a k c) ∧ w'.cell? ⟨by_, oy + k, none⟩ = some (.float .f64 y)) := ⟨fun w' hb => ⟨(hb.cell (p := ⟨w.heap.size, 3, none⟩) (by show w.heap.size < _; omega)).trans s1, (hb.cell (p := ⟨W.heap.size, 3, none⟩) (Nat.lt_succ_self _)).trans s2, (hb.cell (p := ⟨by_, oy + k, none⟩) (by show by_ < _; omega)).trans s3⟩⟩
      clear HO y0 y1 y2 y3 c1 s1 s2 s3 hlt
      refine wp_region_noPanic ?_
      refine wp_region_T (fun w' => w'.cell? ⟨w.heap.size, 3, none⟩ = some (.slice (some ⟨by_, oy, none⟩) n cy) ∧ w'.cell? ⟨W.heap.size, 3, none⟩ = some (.slice a k c) ∧ w'.cell? ⟨by_, oy + k, none⟩ = some (.float .f64 y)) 11 (by kernel_rfl) ?_
      rw [hwd]
      refine AnyT.take0 (i := 0) (v := (.pointer (some ⟨W.heap.size, 3, none⟩))) rfl (by kernel_rfl) (by kernel_rfl) (by kernel_rfl) (by decide) (fun _ _ _ h => h) (Or.inl ⟨by rfl, ?_⟩) (fun _ => hS) ?_
      · intro w _
        go_simp
      (try simp only [Act.put, List.setIfInBounds_toArray, List.set_cons_zero, List.set_cons_succ])
      refine AnyT.take (i := 1) (v := (.slice a k c)) rfl rfl (by kernel_rfl) (by kernel_rfl) (by kernel_rfl) (by kernel_rfl) (by kernel_rfl) (by decide) (fun _ _ _ h => h) (Or.inl ⟨by rfl, ?_⟩) hS ?_
      · intro w hw
        obtain ⟨hw1, hw2, hw3⟩ := hw
        go_simp
      (try simp only [Act.put, List.setIfInBounds_toArray, List.set_cons_zero, List.set_cons_succ])
      refine AnyT.take0 (i := 2) (v := (.pointer (some ⟨w.heap.size, 3, none⟩))) rfl (by kernel_rfl) (by kernel_rfl) (by kernel_rfl) (by decide) (fun _ _ _ h => h) (Or.inl ⟨by rfl, ?_⟩) (fun _ => hS) ?_
      · intro w _
        go_simp
      (try simp only [Act.put, List.setIfInBounds_toArray, List.set_cons_zero, List.set_cons_succ])
      refine AnyT.take (i := 3) (v := (.slice (some ⟨by_, oy, none⟩) n cy)) rfl rfl (by kernel_rfl) (by kernel_rfl) (by kernel_rfl) (by kernel_rfl) (by kernel_rfl) (by decide) (fun _ _ _ h => h) (Or.inl ⟨by rfl, ?_⟩) hS ?_
      · intro w hw
        obtain ⟨hw1, hw2, hw3⟩ := hw
        go_simp
      (try simp only [Act.put, List.setIfInBounds_toArray, List.set_cons_zero, List.set_cons_succ])
      refine AnyT.take0 (i := 4) (v := (.int .i64 k)) rfl (by kernel_rfl) (by kernel_rfl) (by kernel_rfl) (by decide) (fun _ _ _ h => h) (Or.inl ⟨by rfl, ?_⟩) (fun _ => hS) ?_
      · intro w _
        go_simp
      (try simp only [Act.put, List.setIfInBounds_toArray, List.set_cons_zero, List.set_cons_succ])
      refine AnyT.take0 (i := 5) (v := (.pointer (some ⟨by_, oy + k, none⟩))) rfl (by kernel_rfl) (by kernel_rfl) (by kernel_rfl) (by decide) (fun _ _ _ h => h) (Or.inl ⟨by rfl, ?_⟩) (fun _ => hS) ?_
      · intro w _
        go_simp
      (try simp only [Act.put, List.setIfInBounds_toArray, List.set_cons_zero, List.set_cons_succ])
      refine AnyT.take (i := 6) (v := (.float .f64 y)) rfl rfl (by kernel_rfl) (by kernel_rfl) (by kernel_rfl) (by kernel_rfl) (by kernel_rfl) (by decide) (fun _ _ _ h => h) (Or.inl ⟨by rfl, ?_⟩) hS ?_
      · intro w hw
        obtain ⟨hw1, hw2, hw3⟩ := hw
        go_simp
      (try simp only [Act.put, List.setIfInBounds_toArray, List.set_cons_zero, List.set_cons_succ])
      refine AnyT.all (rs := [7]) (by kernel_rfl) (by simp) ?_
      intro j hj
      obtain rfl : j = 7 := by simpa using hj
      clear hj
      refine AnyT.one (o := _) rfl (fun K hK => ?_)
      go_simp
      refine (HBit.out _).mono ?_; rintro e w5 ⟨rfl, rfl⟩
      refine hK.out _ _ (fun _ => hS) ?_
      clear hK K
      (try simp only [Act.put, List.setIfInBounds_toArray, List.set_cons_zero, List.set_cons_succ])
      refine AnyT.all (rs := [8]) (by kernel_rfl) (by simp) ?_
      intro j hj
      obtain rfl : j = 8 := by simpa using hj
      clear hj
      refine AnyT.one (o := _) rfl (fun K hK => ?_)
      go_simp
      obtain ⟨W1, hW1, cw1⟩ : ∃ W1, wd.alloc (.cells #[.int .u64 (y : Nat)] 39) = W1 ∧ W1.cell? ⟨wd.heap.size, 0, none⟩ = some (.int .u64 (y : Nat)) := ⟨_, rfl, by rw [cell_of_row _ wd.heap.size 0 #[.int .u64 (y : Nat)] 39 (0, 0) (heap_alloc_new wd _)]; rfl⟩
      rw [hW1]
      have hS1 := HSn.out W1 (by rw [← hW1]; exact (Below.refl _ _).alloc OD.out.hb _)
      have ow1 : Hd (W1.ownsRow (W.heap.size + 1) 39 1 (.slice a k c) k (wds (Y.take k))) := ⟨by rw [← hW1]; exact OD.out.ow.alloc _⟩
      have hb1 : W.heap.size + 1 ≤ W1.heap.size := by rw [← hW1]; exact Nat.le_trans OD.out.hb (World.alloc_size_le _ _)
      refine hK.out _ _ (fun _ => hS1) ?_
      clear hK K hS
      (try simp only [Act.put, List.setIfInBounds_toArray, List.set_cons_zero, List.set_cons_succ])
      refine AnyT.all (rs := [9]) (by kernel_rfl) (by simp) ?_
      intro j hj
      obtain rfl : j = 9 := by simpa using hj
      clear hj
      refine AnyT.one (o := _) rfl (fun K hK => ?_)
      refine step_append_lies _ rfl (.tmp 20) (.tmp 27) 33 (by rfl) (W.heap.size + 1) 39 i0 (.int .u64 0) 1 8 Try.underlying33 hi hz0 hz1 hz2 rfl (by decide) (.slice a k c) k (wds (Y.take k)) (by rfl) ow1.out ⟨wd.heap.size, 0, none⟩ 1 1 [.int .u64 (y : Nat)] (by rfl) rfl (news1c cw1) (by intro u hu; simp at hu; subst hu; rfl) (by decide) HMx.out.1 HMx.out.2 hb1 _ rfl ?_
      intro g cap W2 hown hgrow _ _
      rw [← hW1] at hgrow
      have hS2 := HSn.out W2 (((Below.refl _ _).alloc OD.out.hb _).grown hgrow (by have := OD.out.hb; have := World.alloc_size_le wd (.cells #[.int .u64 (y : Nat)] 39); omega) (owns_block OD.out.ow))
      obtain ⟨bx2, W3, hW3, os3⟩ := OD.out.next hown hgrow HT.out
      have OS3 := Hd.mk os3
      obtain ⟨t0, t1, t2, t3⟩ := bx2.cell
      have fz := bx2.lies
      refine hK.out _ _ (fun _ => hS2) ?_
      clear hK K hS1 hown hgrow os3 bx2 hW1 cw1 ow1 hb1
      (try simp only [Act.put, List.setIfInBounds_toArray, List.set_cons_zero, List.set_cons_succ])
      have hS := hS2
      refine AnyT.take0 (i := 10) (v := (.pointer (some ⟨W.heap.size, 3, none⟩))) rfl (by kernel_rfl) (by kernel_rfl) (by kernel_rfl) (by decide) (fun _ _ _ h => h) (Or.inl ⟨by rfl, ?_⟩) (fun _ => hS) ?_
      · intro w _
        go_simp
      (try simp only [Act.put, List.setIfInBounds_toArray, List.set_cons_zero, List.set_cons_succ])
      refine AnyT.all (rs := [11]) (by kernel_rfl) (by simp) ?_
      intro j hj
      obtain rfl : j = 11 := by simpa using hj
      clear hj
      refine AnyT.one (o := _) rfl (fun K hK => ?_)
      go_simp
      refine hK.out _ _ (fun h => absurd h (by decide)) ?_
      clear hK K
      (try simp only [Act.put, List.setIfInBounds_toArray, List.set_cons_zero, List.set_cons_succ])
      refine AnyT.done (by kernel_rfl) ?_ _
      refine NoPanic.normal ?_
      try rw [hW3]
      clear hW3 t0 t1 t2 t3 fz hS hS2
      go_wp2_with fail
      exact ⟨⟨k + 1, some ⟨g, 0, none⟩, cap, by omega, by go_num, OS3⟩, by simp [intOf]; omega⟩
    · obtain rfl : n = k := by omega
      have hge : ¬ (n : Int) < n := by omega
      have b2 := B2.out.belowN HO.out.fr hW2
      obtain ⟨r0, r1, r2, r3⟩ := b2.cell
      have fz := b2.lies
      obtain ⟨q0, q1, q2, q3⟩ := HO.out.bx.cell
      have e' : ∀ o, w.heap.size ≤ (⟨w.heap.size + 1, o, none⟩ : Addr).block := fun o => by show _ ≤ w.heap.size + 1; omega
      have e2 : ∀ o, (⟨w.heap.size + 1, o, none⟩ : Addr).block < W.heap.size + 1 := fun o => by show w.heap.size + 1 < _; omega
      obtain ⟨W', hW', g1, g2, g3⟩ : ∃ W', ((((wr.setCell ⟨w.heap.size + 1, 0, none⟩ (.int .i64 ba)).setCell ⟨w.heap.size + 1, 1, none⟩ (.int .i64 kind)).setCell ⟨w.heap.size + 1, 2, none⟩ (.slice ax nx cx)).setCell ⟨w.heap.size + 1, 3, none⟩ (.slice a n c)) = W' ∧ BoxV W' (w.heap.size + 1) ba kind ax nx cx a n c ∧ Below w.heap.size w W' ∧ W'.ownsRow (W.heap.size + 1) 39 1 (.slice a n c) n (wds (Y.take n)) :=
        ⟨_, rfl, b2.set4 _ _ _ _ _ _ _ _, ((((HBW.out _ HO.out.fr).setCell (e' _) _).setCell (e' _) _).setCell (e' _) _).setCell (e' _) _, ownsRow_setCell_below (ownsRow_setCell_below (ownsRow_setCell_below (ownsRow_setCell_below HO.out.ow (e2 _) _) (e2 _) _) (e2 _) _) (e2 _) _⟩
      rw [List.take_of_length_le (by rw [HN.out]; exact Nat.le_refl _)] at g3
      have hrm := own_roomQ g3
      have HU : Hd (Us W' a Y) := ⟨by
        obtain ⟨a', c', e, hu, _⟩ := us_of_owns_room (l := Y) (by rw [HN.out]; exact g3) HF.out (by rw [HN.out]; omega)
        rw [HN.out] at e
        cases e
        exact hu⟩
      have HWW := Hd.mk hW'
      have HB := Hd.mk g2
      have HRm := Hd.mk hrm
      obtain ⟨z0, z1, z2, z3⟩ := g1.cell
      clear b2 e' e2 hW' g1 g2 g3 hrm hlt y0 y1 y2
      go_wp2_with fail
      rw [HWW.out]
      exact bodyPost_ret (v := .agg #[.int .i64 ba, .int .i64 kind, .slice ax nx cx, .slice a n c]) (by simp [results, Try.results41, go_sem, z0, z1, z2, z3]) rfl (HR.out _ _ ⟨a, c, rfl, HU.out, HRm.out, HB.out⟩)

end Go.Proofs.Yteikihidblcljaa
