/- The walk of the reference's At (tenorref10). -/
import Derived.Test.YtmmcnjoeepgpgaaGreatVbC
import Derived.Test.YtmmcnjoeepgpgaaGreatVeC
import Derived.Test.YtmmcnjoeepgpgaaGreatM12
import Derived.Test.YtmmcnjoeepgpgaaGreatUtC
import Derived.Test.YtmmcnjoeepgpgaaGreatM7
import Derived.BigQuiet
namespace Go.Proofs.YtmmcnjoeepgpgaaGreat
open Go.RowKit
set_option linter.unusedSimpArgs false
set_option linter.unusedVariables false

def AtRetU (v : Nat × Int) (w : World) (e : Ending) (w' : World) : Prop := e = .returned (.tuple #[.int .u64 (v.1 : Nat), .int .i64 v.2]) ∧ Below w.heap.size w w'
theorem us_two {w : World} {b o x y : Nat} (hx : F64 x) (hy : F64 y) (c0 : w.cell? ⟨b, o, none⟩ = some (.int .u64 (x : Nat))) (c1 : w.cell? ⟨b, o + 1, none⟩ = some (.int .u64 (y : Nat))) : Us w (some ⟨b, o, none⟩) [x, y] where
  nil := fun h => by cases h
  cell := fun b' o' v h i hi => by
    cases h
    match i, hi with
    | 0, _ => exact ⟨rfl, c0⟩
    | 1, _ => exact ⟨rfl, c1⟩
  wf := getD_nat (fun z hz => by simp at hz; rcases hz with rfl | rfl; exact hx; exact hy) ⟨by decide⟩
  len := by simp
theorem ins_two {w : World} {b : Nat} {x y : Int} (hx : -9223372036854775808 ≤ x ∧ x ≤ 9223372036854775807) (hy : -9223372036854775808 ≤ y ∧ y ≤ 9223372036854775807) (c0 : w.cell? ⟨b, 0, none⟩ = some (.int .i64 x)) (c1 : w.cell? ⟨b, 1, none⟩ = some (.int .i64 y)) : Ins w (some ⟨b, 0, none⟩) [x, y] where
  cell := fun k hk => by
    match k, hk with
    | 0, _ => exact ⟨b, 0, rfl, c0⟩
    | 1, _ => exact ⟨b, 0, rfl, c1⟩
  wf := getD_ins (P := fun x => -9223372036854775808 ≤ x ∧ x ≤ 9223372036854775807) (fun z hz => by simp at hz; rcases hz with rfl | rfl; exact hx; exact hy) (by decide)
  len := by simp
theorem F64_takeJ {l : List Nat} (h : ∀ i, F64 (l.getD i 0)) (k : Nat) : ∀ i, F64 ((l.take k).getD i 0) := fun i => by
  rw [List.getD_eq_getElem?_getD, List.getElem?_take]
  split
  · rw [← List.getD_eq_getElem?_getD]; exact h i
  · exact ⟨by decide⟩
theorem new_c0 (w : World) (a b : Value) (t : TypeId) : (w.alloc (.cells #[a, b] t)).cell? ⟨w.heap.size, 0, none⟩ = some a := by unfold World.alloc; simp [World.cell?, Array.getElem?_push]
theorem new_c1 (w : World) (a b : Value) (t : TypeId) : (w.alloc (.cells #[a, b] t)).cell? ⟨w.heap.size, 1, none⟩ = some b := by unfold World.alloc; simp [World.cell?, Array.getElem?_push]
theorem new_d0 (w : World) (o : Obj) (a b : Value) (t : TypeId) : ((w.alloc o).alloc (.cells #[a, b] t)).cell? ⟨w.heap.size + 1, 0, none⟩ = some a := by
  have := new_c0 (w.alloc o) a b t
  rw [show (w.alloc o).heap.size = w.heap.size + 1 by simp] at this
  exact this
theorem new_d1 (w : World) (o : Obj) (a b : Value) (t : TypeId) : ((w.alloc o).alloc (.cells #[a, b] t)).cell? ⟨w.heap.size + 1, 1, none⟩ = some b := by
  have := new_c1 (w.alloc o) a b t
  rw [show (w.alloc o).heap.size = w.heap.size + 1 by simp] at this
  exact this
theorem cell_al {w : World} {o : Obj} {b i : Nat} {v : Value} (h : w.cell? ⟨b, i, none⟩ = some v) : (w.alloc o).cell? ⟨b, i, none⟩ = some v := cell_of_below ((Below.refl _ _).alloc (Nat.le_refl _) _) (Nat.le_refl _) h
theorem cell_tr {w w' : World} (hb : Below w.heap.size w w') {b i : Nat} {v : Value} (h : w.cell? ⟨b, i, none⟩ = some v) : w'.cell? ⟨b, i, none⟩ = some v := cell_of_below hb (Nat.le_refl _) h
theorem cell_dr {w : World} {b i : Nat} {v : Value} (h : w.cell? ⟨b, i, none⟩ = some v) : w.drew.cell? ⟨b, i, none⟩ = some v := h
theorem below_al {W w : World} {o : Obj} (h : Below W.heap.size W w) : Below W.heap.size W (w.alloc o) := h.alloc h.size o
theorem below_dr {W w : World} (h : Below W.heap.size W w) : Below W.heap.size W w.drew := h.drew
theorem below_tr {W w w' : World} (hb : Below w.heap.size w w') (h : Below W.heap.size W w) : Below W.heap.size W w' := h.trans (hb.mono h.size)

set_option maxHeartbeats 1600000 in
set_option maxRecDepth 100000 in
theorem atr_bad {kind : Int} {ax : Option Addr} {X : List Int} {cx : Nat} {au : Option Addr} {Y : List Nat} {cu : Nat} (hCk : CheckR kind ax X cx au Y cu) (x : Int) (w : World) (ht : TblR w ax X au Y) (h1 : (fdT kind X Y x).2 ≠ 0) :
    Calls Tryz.prog 8 #[.agg #[.int .i64 kind, .slice ax X.length cx, .slice au Y.length cu], .int .i64 x] w (AtRetU (0, (fdT kind X Y x).2) w) := by
  have HF := Hd.mk fun w1 h => find10r_of hCk x w1 h
  generalize fdT kind X Y x = R at *
  obtain ⟨R1, R2⟩ := R
  dsimp only at HF h1 ⊢
  have d1 : (R2 != 0) = true := by rw [bne_iff_ne]; exact h1
  generalize X.length = n at *
  generalize Y.length = m at *
  obtain ⟨W, hW, b1, b2⟩ := box_r w kind ax n cx au m cu
  obtain ⟨y0, y1, y2⟩ := b1.cell
  have B2 := Hd.mk b2
  have T := Hd.mk (ht.belowK b2)
  clear b1 b2 ht h1 hCk
  go_enter Tryz.func8, Tryz.ntmps8
  go_upto_region 1 with fail
  clear hW
  go_wp2_with fail
  refine (HF.out _ T.out).mono ?_; rintro e w1 ⟨rfl, hb⟩
  have B3 := Hd.mk (B2.out.trans (hb.mono B2.out.size))
  clear hb
  go_wp2_with fail
  go_ret2
  exact ⟨rfl, B3.out⟩

set_option maxHeartbeats 1600000 in
set_option maxRecDepth 100000 in
theorem atr_node {kind : Int} {ax : Option Addr} {X : List Int} {cx : Nat} {au : Option Addr} {Y : List Nat} {cu : Nat} (hCk : CheckR kind ax X cx au Y cu) (x : Int) (w : World) (ht : TblR w ax X au Y) (hl : Y.length ≤ 256) (k : Nat) (hk : k < X.length) (hm : Y.length = X.length) (h1 : fdT kind X Y x = ((k : Int), 0)) (h2 : X.getD k 0 = x ∨ kind = 1) :
    Calls Tryz.prog 8 #[.agg #[.int .i64 kind, .slice ax X.length cx, .slice au Y.length cu], .int .i64 x] w (AtRetU (Y.getD k 0, 0) w) := by
  have HF := Hd.mk fun w1 h => find10r_of hCk x w1 h
  rw [h1] at HF
  have lx := ht.ix.len
  obtain ⟨bx, ox, hax, c1⟩ := ht.ix.at k hk
  obtain ⟨bu, ou, hau, c2⟩ := (ht.uy hl).at k (by omega)
  subst hax
  subst hau
  generalize Y.getD k 0 = y at *
  generalize X.getD k 0 = x' at *
  generalize X.length = n at *
  generalize Y.length = m at *
  subst hm
  have k0 : (0 : Int) ≤ k := by omega
  have k2 : (k : Int) < m := by omega
  obtain ⟨W, hW, b1, b2⟩ := box_r w kind (some ⟨bx, ox, none⟩) m cx (some ⟨bu, ou, none⟩) m cu
  obtain ⟨y0, y1, y2⟩ := b1.cell
  have B1 := Hd.mk b1
  have B2 := Hd.mk b2
  have T := Hd.mk (ht.belowK b2)
  have E1 := Hd.mk (cell_of_below b2 (Nat.le_refl _) c1)
  have E2 := Hd.mk (cell_of_below b2 (Nat.le_refl _) c2)
  clear b1 b2 ht h1 c1 c2 hk hCk
  by_cases h3 : x' = x
  · have d1 : (x' == x) = true := by rw [beq_iff_eq]; exact h3
    clear h2 h3
    go_enter Tryz.func8, Tryz.ntmps8
    go_upto_region 1 with fail
    clear hW
    go_wp2_with fail
    refine (HF.out _ T.out).mono ?_; rintro e w1 ⟨rfl, hb⟩
    have B3 := Hd.mk (B2.out.trans (hb.mono B2.out.size))
    obtain ⟨z0, z1, z2⟩ := (B1.out.below hb).cell
    have g1 := cell_of_below hb (Nat.le_refl _) E1.out
    have g2 := cell_of_below hb (Nat.le_refl _) E2.out
    clear hb y0 y1 y2
    go_wp2_with fail
    go_ret2
    exact ⟨rfl, B3.out⟩
  · have d1 : (x' == x) = false := by rw [beq_eq_false_iff_ne]; exact h3
    have h4 : kind = 1 := by rcases h2 with h | h; exact absurd h h3; exact h
    have d2 : (kind == 1) = true := by rw [beq_iff_eq]; exact h4
    clear h2 h3 h4
    go_enter Tryz.func8, Tryz.ntmps8
    go_upto_region 1 with fail
    clear hW
    go_wp2_with fail
    refine (HF.out _ T.out).mono ?_; rintro e w1 ⟨rfl, hb⟩
    have B3 := Hd.mk (B2.out.trans (hb.mono B2.out.size))
    obtain ⟨z0, z1, z2⟩ := (B1.out.below hb).cell
    have g1 := cell_of_below hb (Nat.le_refl _) E1.out
    have g2 := cell_of_below hb (Nat.le_refl _) E2.out
    clear hb y0 y1 y2
    go_wp2_with fail
    go_ret2
    exact ⟨rfl, B3.out⟩

set_option maxHeartbeats 6400000 in
set_option maxRecDepth 100000 in
/-- On a line. -/
theorem atr_linear {ax : Option Addr} {X : List Int} {cx : Nat} {au : Option Addr} {Y : List Nat} {cu : Nat} (hCk : CheckR 2 ax X cx au Y cu) (hc : chkT 2 X Y = 0) (ok : TOk X Y X.length) (x : Int) (w : World) (ht : TblR w ax X au Y) (hru : X.length ≤ cu ∧ cu ≤ 9223372036854775807) (k : Nat) (hk : k + 1 < X.length) (h1 : fdT 2 X Y x = ((k : Int), 0)) (h2 : X.getD k 0 ≠ x)
    (i h : Int) (hi : x - X.getD k 0 = i) (hh : X.getD (k + 1) 0 - X.getD k 0 = h) (h0 : 0 ≤ i) (h3 : i ≤ h) (h4 : 1 ≤ h) (h5 : h ≤ 109572) :
    Calls Tryz.prog 8 #[.agg #[.int .i64 2, .slice ax X.length cx, .slice au Y.length cu], .int .i64 x] w (AtRetU (wsT h.toNat [h - i, i] [Y.getD k 0, Y.getD (k + 1) 0], 0) w) := by
  have HF := Hd.mk fun w1 h => find10r_of hCk x w1 h
  rw [h1] at HF
  dsimp only at HF
  have ly := ok.ly
  have lx := ok.max
  obtain ⟨bx, ox, hax, c1⟩ := ht.ix.at k (by omega)
  obtain ⟨bx', ox', hax', c2⟩ := ht.ix.at (k + 1) (by omega)
  rw [hax] at hax'
  cases hax'
  obtain ⟨bu, ou, hau, c3⟩ := (ht.uy (chk_le hc)).at k (by omega)
  obtain ⟨bu', ou', hau', c4⟩ := (ht.uy (chk_le hc)).at (k + 1) (by omega)
  rw [hau] at hau'
  cases hau'
  subst hax
  subst hau
  have d1 : (X.getD k 0 == x) = false := by rw [beq_eq_false_iff_ne]; exact h2
  have ws1 : IntKind.i64.wrap (x - X.getD k 0) = i := by rw [hi]; exact IntWalk.i64_in _ (by omega)
  have ws2 : IntKind.i64.wrap (X.getD (k + 1) 0 - X.getD k 0) = h := by rw [hh]; exact IntWalk.i64_in _ (by omega)
  have wfa := (ht.uy (chk_le hc)).wf k
  have wfb := (ht.uy (chk_le hc)).wf (k + 1)
  have HF2 : Hd (∀ w', w'.cell? ⟨bu, ou + k, none⟩ = some (.int .u64 (Y.getD k 0 : Nat)) → w'.cell? ⟨bu, ou + (k + 1), none⟩ = some (.int .u64 (Y.getD (k + 1) 0 : Nat)) → Us w' (some ⟨bu, ou + k, none⟩) [Y.getD k 0, Y.getD (k + 1) 0]) := ⟨fun w' a b => us_two wfa wfb a b⟩
  have wf2 : ∀ j, F64 ([Y.getD k 0, Y.getD (k + 1) 0].getD j 0) := getD_nat (fun x hx => by simp at hx; rcases hx with rfl | rfl; exact wfa; exact wfb) ⟨by decide⟩
  have HO : Hd (∀ (w1 : World) a c c', Ins w1 a [h - i, i] → Us w1 (some ⟨bu, ou + k, none⟩) [Y.getD k 0, Y.getD (k + 1) 0] → Calls Tryz.prog 23 #[.slice a 2 c, .slice (some ⟨bu, ou + k, none⟩) 2 c', .int .i64 h] w1 (URet (wsT h.toNat [h - i, i] [Y.getD k 0, Y.getD (k + 1) 0]) w1)) := ⟨fun w1 a c c' hi hf => by
    have := between10r_any a [h - i, i] c _ _ c' h.toNat (by omega) (by omega) w1 hi hf rfl (fun k => by rw [← List.map_take]; exact zD_acc _ _ (by simp; omega) (fun j => F64_takeJ wf2 _ j))
    rw [show ((h.toNat : Nat) : Int) = h by omega] at this
    exact this⟩
  have HI := Hd.mk fun w1 => ins_new w1 [h - i, i] 3 (getD_ins (P := fun x => -9223372036854775808 ≤ x ∧ x ≤ 9223372036854775807) (fun x hx => by simp at hx; omega) (by decide)) (by simp)
  rw [show ([h - i, i].map (Value.int .i64)).toArray = #[.int .i64 (h - i), .int .i64 i] from rfl] at HI
  have ws3 : IntKind.i64.wrap (h - i) = h - i := IntWalk.i64_in _ (by omega)
  obtain ⟨L, hL⟩ : ∃ L, [Y.getD k 0, Y.getD (k + 1) 0] = L := ⟨_, rfl⟩
  rw [ly] at HF ⊢
  generalize wsT h.toNat [h - i, i] [Y.getD k 0, Y.getD (k + 1) 0] = R at *
  obtain ⟨xa, hxa⟩ : ∃ xa, X.getD k 0 = xa := ⟨_, rfl⟩
  obtain ⟨xb, hxb⟩ : ∃ xb, X.getD (k + 1) 0 = xb := ⟨_, rfl⟩
  obtain ⟨ya, hya⟩ : ∃ ya, Y.getD k 0 = ya := ⟨_, rfl⟩
  obtain ⟨yb, hyb⟩ : ∃ yb, Y.getD (k + 1) 0 = yb := ⟨_, rfl⟩
  rw [hxa] at c1 d1 ws1 ws2
  rw [hxb] at c2 ws2
  rw [hya] at c3
  rw [hyb] at c4
  obtain ⟨n, hn⟩ : ∃ n, X.length = n := ⟨_, rfl⟩
  rw [hn] at HF hru lx hk ⊢
  have wr1 : IntKind.i64.wrap ((k : Int) + 1) = (k : Int) + 1 := IntWalk.i64_in _ (by omega)
  have wr2 : ((k : Int) + 1).toNat = k + 1 := by omega
  have wr3 : IntKind.i64.wrap ((k : Int) + 2) = (k : Int) + 2 := IntWalk.i64_in _ (by omega)
  have wr4 : ((k : Int) + 2).toNat = k + 2 := by omega
  have k0 : (0 : Int) ≤ k := by omega
  have k1 : (k : Int) + 1 < n := by omega
  have k2 : (k : Int) < n := by omega
  have k4 : (0 : Int) ≤ (k : Int) + 1 := by omega
  have k5 : (0 : Int) ≤ (k : Int) + 2 := by omega
  have k6 : (k : Int) + 2 ≤ cu := by omega
  have k7 : k + 2 ≤ cu := by omega
  have k8 : (k : Int) ≤ (k : Int) + 2 := by omega
  have k9 : ¬ cu = k := by omega
  obtain ⟨W, hW, b1, b2⟩ := box_r w 2 (some ⟨bx, ox, none⟩) n cx (some ⟨bu, ou, none⟩) n cu
  obtain ⟨y0, y1, y2⟩ := b1.cell
  have B1 := Hd.mk b1
  have B2 := Hd.mk b2
  have T := Hd.mk (ht.belowK b2)
  have E1 := Hd.mk (cell_of_below b2 (Nat.le_refl _) c1)
  have E2 := Hd.mk (cell_of_below b2 (Nat.le_refl _) c2)
  have E3 := Hd.mk (cell_of_below b2 (Nat.le_refl _) c3)
  have E4 := Hd.mk (cell_of_below b2 (Nat.le_refl _) c4)
  rw [hL] at HF2 HO
  rw [hya, hyb] at HF2
  clear b1 b2 ht h1 h2 c1 c2 c3 c4 hk hi hh hru hn hCk hc ok lx ly hxa hxb hya hyb wfa wfb wf2 hL
  go_enter Tryz.func8, Tryz.ntmps8
  go_upto_region 1 with fail
  clear hW
  go_wp2_with fail
  refine (HF.out _ T.out).mono ?_; rintro e w1 ⟨rfl, hb⟩
  have B3 := Hd.mk (B2.out.trans (hb.mono B2.out.size))
  have T3 := Hd.mk (T.out.belowK hb)
  have U3 := Hd.mk (B1.out.below hb)
  obtain ⟨z0, z1, z2⟩ := U3.out.cell
  have g1 := cell_of_below hb (Nat.le_refl _) E1.out
  have g2 := cell_of_below hb (Nat.le_refl _) E2.out
  have g3 := cell_of_below hb (Nat.le_refl _) E3.out
  have g4 := cell_of_below hb (Nat.le_refl _) E4.out
  clear hb y0 y1 y2 B1 E1 E2 E3 E4 T
  go_wp2_with fail
  go_quiet (fail)
  have v0 : (w1.drewN nq).cell? ⟨w.heap.size, 0, none⟩ = _ := z0
  have v1 : (w1.drewN nq).cell? ⟨w.heap.size, 1, none⟩ = _ := z1
  have v2 : (w1.drewN nq).cell? ⟨w.heap.size, 2, none⟩ = _ := z2
  have x1 : (w1.drewN nq).cell? ⟨bx, ox + k, none⟩ = _ := g1
  have x2 : (w1.drewN nq).cell? ⟨bx, ox + (k + 1), none⟩ = _ := g2
  have x3 : (w1.drewN nq).cell? ⟨bu, ou + k, none⟩ = _ := g3
  have x4 : (w1.drewN nq).cell? ⟨bu, ou + (k + 1), none⟩ = _ := g4
  have TQ : Hd (TblR (w1.drewN nq) _ _ _ _) := ⟨T3.out.belowK (below_drewN (Below.refl _ _) nq)⟩
  have UQ : Hd (BoxR (w1.drewN nq) _ _ _ _ _ _ _ _) := ⟨U3.out⟩
  have BQ := Hd.mk (below_drewN B3.out nq)
  generalize w1.drewN nq = w2 at *
  have va2 := fun o => (UQ.out.alloc o).cell.2.2
  clear z0 z1 z2 g1 g2 g3 g4 T3 U3 B3
  go_wp2_with fail
  refine (HO.out _ _ _ _ (HI.out w2) ((HF2.out _ x3 x4).below ((Below.refl _ _).alloc (Nat.le_refl _) _))).mono ?_; rintro e w3 ⟨rfl, hb⟩
  have B4 : Hd (Below w.heap.size w w3) := ⟨(BQ.out.alloc BQ.out.size _).trans (hb.mono (Nat.le_trans BQ.out.size (World.alloc_size_le _ _)))⟩
  clear hb
  go_wp2_with fail
  go_ret2
  exact ⟨rfl, B4.out⟩

set_option maxHeartbeats 6400000 in
set_option maxRecDepth 100000 in
/-- On a cubic. -/
theorem atr_cubic {ax : Option Addr} {X : List Int} {cx : Nat} {au : Option Addr} {Y : List Nat} {cu : Nat} (hCk : CheckR 3 ax X cx au Y cu) (hc : chkT 3 X Y = 0) (ok : TOk X Y X.length) (x : Int) (w : World) (ht : TblR w ax X au Y) (hru : X.length ≤ cu ∧ cu ≤ 9223372036854775807) (k : Nat) (hk : k + 1 < X.length) (h1 : fdT 3 X Y x = ((k : Int), 0)) (h2 : X.getD k 0 ≠ x)
    (i h : Int) (hi : x - X.getD k 0 = i) (hh : X.getD (k + 1) 0 - X.getD k 0 = h) (h0 : 0 ≤ i) (h3 : i ≤ h) (h4 : 1 ≤ h) (h5 : h ≤ 109572) :
    Calls Tryz.prog 8 #[.agg #[.int .i64 3, .slice ax X.length cx, .slice au Y.length cu], .int .i64 x] w (AtRetU (wsT (h * h * h).toNat (cwT (h - i) i) (ptT X Y X.length k), 0) w) := by
  have HF := Hd.mk fun w1 h => find10r_of hCk x w1 h
  rw [h1] at HF
  dsimp only at HF
  have ly := ok.ly
  have lx := ok.max
  obtain ⟨bx, ox, hax, c1⟩ := ht.ix.at k (by omega)
  obtain ⟨bx', ox', hax', c2⟩ := ht.ix.at (k + 1) (by omega)
  rw [hax] at hax'
  cases hax'
  obtain ⟨bu, ou, hau, c3⟩ := (ht.uy (chk_le hc)).at k (by omega)
  obtain ⟨bu', ou', hau', c4⟩ := (ht.uy (chk_le hc)).at (k + 1) (by omega)
  rw [hau] at hau'
  cases hau'
  subst hax
  subst hau
  have d1 : (X.getD k 0 == x) = false := by rw [beq_eq_false_iff_ne]; exact h2
  have ws1 : IntKind.i64.wrap (x - X.getD k 0) = i := by rw [hi]; exact IntWalk.i64_in _ (by omega)
  have ws2 : IntKind.i64.wrap (X.getD (k + 1) 0 - X.getD k 0) = h := by rw [hh]; exact IntWalk.i64_in _ (by omega)
  have HPo := Hd.mk fun w1 (h : TblR w1 (some ⟨bx, ox, none⟩) X (some ⟨bu, ou, none⟩) Y) => points10r_ok hCk hc k hk w1 h
  rw [ly] at HPo
  have hp : 0 < h * h * h := Int.mul_pos (Int.mul_pos (by omega) (by omega)) (by omega)
  obtain ⟨q1, q2, q3, q4⟩ := cube_bd (show 0 ≤ h by omega) (Int.le_refl h) h5
  have wfp : ∀ j, F64 ((ptT X Y X.length k).getD j 0) := fun j => F64_ptF ok j
  have HSl : Hd (slR (ptF X Y X.length k) 4 = ptT X Y X.length k) := ⟨rfl⟩
  have HO : Hd (∀ (w1 : World) a c a' c', Ins w1 a (cwT (h - i) i) → Us w1 a' (ptT X Y X.length k) → Calls Tryz.prog 23 #[.slice a 4 c, .slice a' 4 c', .int .i64 (h * h * h)] w1 (URet (wsT (h * h * h).toNat (cwT (h - i) i) (ptT X Y X.length k)) w1)) := ⟨fun w1 a c a' c' hi hf => by
    have := between10r_any a (cwT (h - i) i) c _ _ c' (h * h * h).toNat (by omega) (by omega) w1 hi hf rfl (fun k => by rw [← List.map_take]; exact zD_acc _ _ (by simp [cwT]; omega) (fun j => F64_takeJ wfp _ j))
    rw [show (((h * h * h).toNat : Nat) : Int) = h * h * h by omega] at this
    exact this⟩
  obtain ⟨j, hj⟩ : ∃ j, h - i = j := ⟨_, rfl⟩
  rw [hj] at HO ⊢
  have j0 : 0 ≤ j := by omega
  have j1 : j ≤ 109572 := by omega
  have i1 : i ≤ 109572 := by omega
  obtain ⟨p1, p2, p3, p4⟩ := cube_bd j0 (Int.le_refl j) j1
  obtain ⟨r1, r2, r3, r4⟩ := cube_bd h0 (Int.le_refl i) i1
  obtain ⟨s1, s2, s3, s4⟩ := mix_bd h0 i1 j0 j1
  have t1 : 0 ≤ 3 * j * j ∧ 3 * j * j ≤ 36018069552 := by rw [Int.mul_assoc]; omega
  have t2 : 0 ≤ 3 * j * i ∧ 3 * j * i ≤ 36018069552 := by
    have a : 0 ≤ j * i := Int.mul_nonneg j0 h0
    have b : j * i ≤ 109572 * 109572 := Int.mul_le_mul j1 i1 h0 (by decide)
    rw [Int.mul_assoc]; omega
  have HI := Hd.mk fun w1 => ins_new w1 (cwT j i) 3 (getD_ins (P := fun x => -9223372036854775808 ≤ x ∧ x ≤ 9223372036854775807) (fun x hx => by simp [cwT] at hx; omega) (by decide)) (by simp [cwT])
  rw [show ((cwT j i).map (Value.int .i64)).toArray = #[.int .i64 (j * j * j), .int .i64 (3 * j * j * i), .int .i64 (3 * j * i * i), .int .i64 (i * i * i)] from rfl] at HI
  have m1 : IntKind.i64.wrap (h - i) = j := by rw [hj]; exact IntWalk.i64_in _ (by omega)
  have m2 : IntKind.i64.wrap (h * h) = h * h := IntWalk.i64_in _ (by omega)
  have m3 : IntKind.i64.wrap (h * h * h) = h * h * h := IntWalk.i64_in _ (by omega)
  have m4 : IntKind.i64.wrap (j * j) = j * j := IntWalk.i64_in _ (by omega)
  have m5 : IntKind.i64.wrap (j * j * j) = j * j * j := IntWalk.i64_in _ (by omega)
  have m6 : IntKind.i64.wrap (3 * j) = 3 * j := IntWalk.i64_in _ (by omega)
  have m7 : IntKind.i64.wrap (3 * j * j) = 3 * j * j := IntWalk.i64_in _ (by omega)
  have m8 : IntKind.i64.wrap (3 * j * j * i) = 3 * j * j * i := IntWalk.i64_in _ (by omega)
  have m9 : IntKind.i64.wrap (3 * j * i) = 3 * j * i := IntWalk.i64_in _ (by omega)
  have m10 : IntKind.i64.wrap (3 * j * i * i) = 3 * j * i * i := IntWalk.i64_in _ (by omega)
  have m11 : IntKind.i64.wrap (i * i) = i * i := IntWalk.i64_in _ (by omega)
  have m12 : IntKind.i64.wrap (i * i * i) = i * i * i := IntWalk.i64_in _ (by omega)
  obtain ⟨cw, hcw⟩ : ∃ cw, cwT j i = cw := ⟨_, rfl⟩
  rw [hcw] at HO HI ⊢
  rw [ly] at HF ⊢
  generalize wsT (h * h * h).toNat cw (ptT X Y X.length k) = R at *
  generalize ptT X Y X.length k = pt at *
  generalize ptF X Y X.length k = pf at *
  obtain ⟨xa, hxa⟩ : ∃ xa, X.getD k 0 = xa := ⟨_, rfl⟩
  obtain ⟨xb, hxb⟩ : ∃ xb, X.getD (k + 1) 0 = xb := ⟨_, rfl⟩
  obtain ⟨ya, hya⟩ : ∃ ya, Y.getD k 0 = ya := ⟨_, rfl⟩
  obtain ⟨yb, hyb⟩ : ∃ yb, Y.getD (k + 1) 0 = yb := ⟨_, rfl⟩
  rw [hxa] at c1 d1 ws1 ws2
  rw [hxb] at c2 ws2
  rw [hya] at c3
  rw [hyb] at c4
  obtain ⟨n, hn⟩ : ∃ n, X.length = n := ⟨_, rfl⟩
  rw [hn] at HF hru lx hk ⊢
  have wr1 : IntKind.i64.wrap ((k : Int) + 1) = (k : Int) + 1 := IntWalk.i64_in _ (by omega)
  have wr2 : ((k : Int) + 1).toNat = k + 1 := by omega
  have wr3 : IntKind.i64.wrap ((k : Int) + 2) = (k : Int) + 2 := IntWalk.i64_in _ (by omega)
  have wr4 : ((k : Int) + 2).toNat = k + 2 := by omega
  have k0 : (0 : Int) ≤ k := by omega
  have k1 : (k : Int) + 1 < n := by omega
  have k2 : (k : Int) < n := by omega
  have k4 : (0 : Int) ≤ (k : Int) + 1 := by omega
  have k5 : (0 : Int) ≤ (k : Int) + 2 := by omega
  have k6 : (k : Int) + 2 ≤ cu := by omega
  have k7 : k + 2 ≤ cu := by omega
  have k8 : (k : Int) ≤ (k : Int) + 2 := by omega
  have k9 : ¬ cu = k := by omega
  obtain ⟨W, hW, b1, b2⟩ := box_r w 3 (some ⟨bx, ox, none⟩) n cx (some ⟨bu, ou, none⟩) n cu
  obtain ⟨y0, y1, y2⟩ := b1.cell
  have B1 := Hd.mk b1
  have B2 := Hd.mk b2
  have T := Hd.mk (ht.belowK b2)
  have E1 := Hd.mk (cell_of_below b2 (Nat.le_refl _) c1)
  have E2 := Hd.mk (cell_of_below b2 (Nat.le_refl _) c2)
  have E3 := Hd.mk (cell_of_below b2 (Nat.le_refl _) c3)
  have E4 := Hd.mk (cell_of_below b2 (Nat.le_refl _) c4)
  rw [hn] at HPo
  clear b1 b2 ht h1 h2 c1 c2 c3 c4 hk hi hh hru hn hCk hc ok lx ly hxa hxb hya hyb wfp hj hcw p1 p2 p3 p4 q1 q2 q3 q4 r1 r2 r3 r4 s1 s2 s3 s4 t1 t2 hp
  go_enter Tryz.func8, Tryz.ntmps8
  go_upto_region 1 with fail
  clear hW
  go_wp2_with fail
  refine (HF.out _ T.out).mono ?_; rintro e w1 ⟨rfl, hb⟩
  have B3 := Hd.mk (B2.out.trans (hb.mono B2.out.size))
  have T3 := Hd.mk (T.out.belowK hb)
  have U3 := Hd.mk (B1.out.below hb)
  obtain ⟨z0, z1, z2⟩ := U3.out.cell
  have g1 := cell_of_below hb (Nat.le_refl _) E1.out
  have g2 := cell_of_below hb (Nat.le_refl _) E2.out
  have g3 := cell_of_below hb (Nat.le_refl _) E3.out
  have g4 := cell_of_below hb (Nat.le_refl _) E4.out
  clear hb y0 y1 y2 B1 E1 E2 E3 E4 T
  go_wp2_with fail
  go_quiet (fail)
  have v0 : (w1.drewN nq).cell? ⟨w.heap.size, 0, none⟩ = _ := z0
  have v1 : (w1.drewN nq).cell? ⟨w.heap.size, 1, none⟩ = _ := z1
  have v2 : (w1.drewN nq).cell? ⟨w.heap.size, 2, none⟩ = _ := z2
  have x1 : (w1.drewN nq).cell? ⟨bx, ox + k, none⟩ = _ := g1
  have x2 : (w1.drewN nq).cell? ⟨bx, ox + (k + 1), none⟩ = _ := g2
  have x3 : (w1.drewN nq).cell? ⟨bu, ou + k, none⟩ = _ := g3
  have x4 : (w1.drewN nq).cell? ⟨bu, ou + (k + 1), none⟩ = _ := g4
  have TQ : Hd (TblR (w1.drewN nq) _ _ _ _) := ⟨T3.out.belowK (below_drewN (Below.refl _ _) nq)⟩
  have UQ : Hd (BoxR (w1.drewN nq) _ _ _ _ _ _ _ _) := ⟨U3.out⟩
  have BQ := Hd.mk (below_drewN B3.out nq)
  generalize w1.drewN nq = w2 at *
  have va2 := fun o => (UQ.out.alloc o).cell.2.2
  clear z0 z1 z2 g1 g2 g3 g4 T3 U3 B3
  go_wp2_with fail
  refine (HPo.out _ TQ.out).mono ?_; rintro e w3 ⟨a, c, rfl, hu, _, hb⟩
  have HU3 : Hd (Us w3 (some a) pt) := ⟨by rw [← HSl.out]; exact hu⟩
  have B4 := Hd.mk (BQ.out.trans (hb.mono BQ.out.size))
  clear v0 v1 v2 va2 x1 x2 x3 x4 hu hb
  go_wp2_with fail
  refine (HO.out _ _ _ _ _ (HI.out w3) (HU3.out.below ((Below.refl _ _).alloc (Nat.le_refl _) _))).mono ?_; rintro e w4 ⟨rfl, hb⟩
  have B5 : Hd (Below w.heap.size w w4) := ⟨(B4.out.alloc B4.out.size _).trans (hb.mono (Nat.le_trans B4.out.size (World.alloc_size_le _ _)))⟩
  clear hb
  go_wp2_with fail
  go_ret2
  exact ⟨rfl, B5.out⟩

set_option maxHeartbeats 6400000 in
set_option maxRecDepth 100000 in
/-- On a line of logarithms. -/
theorem atr_logs {ax : Option Addr} {X : List Int} {cx : Nat} {au : Option Addr} {Y : List Nat} {cu : Nat} (hCk : CheckR 4 ax X cx au Y cu) (hc : chkT 4 X Y = 0) (ok : TOk X Y X.length) (x : Int) (w : World) (ht : TblR w ax X au Y) (hru : X.length ≤ cu ∧ cu ≤ 9223372036854775807) (k : Nat) (hk : k + 1 < X.length) (h1 : fdT 4 X Y x = ((k : Int), 0)) (h2 : X.getD k 0 ≠ x)
    (i h : Int) (hi : x - X.getD k 0 = i) (hh : X.getD (k + 1) 0 - X.getD k 0 = h) (h0 : 0 ≤ i) (h3 : i ≤ h) (h4 : 1 ≤ h) (h5 : h ≤ 109572) :
    Calls Tryz.prog 8 #[.agg #[.int .i64 4, .slice ax X.length cx, .slice au Y.length cu], .int .i64 x] w (AtRetU (hld (fexp (wsT h.toNat [h - i, i] [fln (Y.getD k 0), fln (Y.getD (k + 1) 0)])) (Y.getD k 0) (Y.getD (k + 1) 0), 0) w) := by
  have HF := Hd.mk fun w1 h => find10r_of hCk x w1 h
  rw [h1] at HF
  dsimp only at HF
  have ly := ok.ly
  have lx := ok.max
  obtain ⟨bx, ox, hax, c1⟩ := ht.ix.at k (by omega)
  obtain ⟨bx', ox', hax', c2⟩ := ht.ix.at (k + 1) (by omega)
  rw [hax] at hax'
  cases hax'
  obtain ⟨bu, ou, hau, c3⟩ := (ht.uy (chk_le hc)).at k (by omega)
  obtain ⟨bu', ou', hau', c4⟩ := (ht.uy (chk_le hc)).at (k + 1) (by omega)
  rw [hau] at hau'
  cases hau'
  subst hax
  subst hau
  have d1 : (X.getD k 0 == x) = false := by rw [beq_eq_false_iff_ne]; exact h2
  have ws1 : IntKind.i64.wrap (x - X.getD k 0) = i := by rw [hi]; exact IntWalk.i64_in _ (by omega)
  have ws2 : IntKind.i64.wrap (X.getD (k + 1) 0 - X.getD k 0) = h := by rw [hh]; exact IntWalk.i64_in _ (by omega)
  have wfa := (ht.uy (chk_le hc)).wf k
  have wfb := (ht.uy (chk_le hc)).wf (k + 1)
  have na := nn_fin _ (ok.fn k (by omega))
  have nb := nn_fin _ (ok.fn (k + 1) hk)
  have HLa := Hd.mk (rLn_any (Y.getD k 0) wfa)
  have HLb := Hd.mk (rLn_any (Y.getD (k + 1) 0) wfb)
  have HE := Hd.mk (rExp_any (wsT h.toNat [h - i, i] [fln (Y.getD k 0), fln (Y.getD (k + 1) 0)]) (F64_wsT _ _ _))
  have HH : Hd (∀ w, Calls Tryz.prog 26 #[.int .u64 (fexp (wsT h.toNat [h - i, i] [fln (Y.getD k 0), fln (Y.getD (k + 1) 0)]) : Nat), .int .u64 (Y.getD k 0 : Nat), .int .u64 (Y.getD (k + 1) 0 : Nat)] w fun e w' => e = .returned (.int .u64 (hld (fexp (wsT h.toNat [h - i, i] [fln (Y.getD k 0), fln (Y.getD (k + 1) 0)])) (Y.getD k 0) (Y.getD (k + 1) 0) : Nat)) ∧ w = w') := ⟨fun w => held10r_any _ _ _ (F64_fexp _) wfa wfb na nb w⟩
  have gaw := F64_fln (Y.getD k 0) wfa
  have gbw := F64_fln (Y.getD (k + 1) 0) wfb
  have wf2 : ∀ j, F64 ([fln (Y.getD k 0), fln (Y.getD (k + 1) 0)].getD j 0) := getD_nat (fun x hx => by simp at hx; rcases hx with rfl | rfl; exact gaw; exact gbw) ⟨by decide⟩
  have HO : Hd (∀ (w1 : World) (b b' : Nat) c c', w1.cell? ⟨b, 0, none⟩ = some (.int .i64 (h - i)) → w1.cell? ⟨b, 1, none⟩ = some (.int .i64 i) → w1.cell? ⟨b', 0, none⟩ = some (.int .u64 (fln (Y.getD k 0) : Nat)) → w1.cell? ⟨b', 1, none⟩ = some (.int .u64 (fln (Y.getD (k + 1) 0) : Nat)) → Calls Tryz.prog 23 #[.slice (some ⟨b, 0, none⟩) 2 c, .slice (some ⟨b', 0, none⟩) 2 c', .int .i64 h] w1 (URet (wsT h.toNat [h - i, i] [fln (Y.getD k 0), fln (Y.getD (k + 1) 0)]) w1)) := ⟨fun w1 b b' c c' a1 a2 a3 a4 => by
    have := between10r_any _ [h - i, i] c _ _ c' h.toNat (by omega) (by omega) w1 (ins_two (by omega) (by omega) a1 a2) (us_two gaw gbw a3 a4) rfl (fun k => by rw [← List.map_take]; exact zD_acc _ _ (by simp; omega) (fun j => F64_takeJ wf2 _ j))
    rw [show ((h.toNat : Nat) : Int) = h by omega] at this
    exact this⟩
  have ws3 : IntKind.i64.wrap (h - i) = h - i := IntWalk.i64_in _ (by omega)
  rw [ly] at HF ⊢
  generalize hld (fexp (wsT h.toNat [h - i, i] [fln (Y.getD k 0), fln (Y.getD (k + 1) 0)])) (Y.getD k 0) (Y.getD (k + 1) 0) = R at *
  generalize fexp (wsT h.toNat [h - i, i] [fln (Y.getD k 0), fln (Y.getD (k + 1) 0)]) = E at *
  generalize wsT h.toNat [h - i, i] [fln (Y.getD k 0), fln (Y.getD (k + 1) 0)] = S at *
  generalize fln (Y.getD k 0) = la at *
  generalize fln (Y.getD (k + 1) 0) = lb at *
  obtain ⟨xa, hxa⟩ : ∃ xa, X.getD k 0 = xa := ⟨_, rfl⟩
  obtain ⟨xb, hxb⟩ : ∃ xb, X.getD (k + 1) 0 = xb := ⟨_, rfl⟩
  obtain ⟨ya, hya⟩ : ∃ ya, Y.getD k 0 = ya := ⟨_, rfl⟩
  obtain ⟨yb, hyb⟩ : ∃ yb, Y.getD (k + 1) 0 = yb := ⟨_, rfl⟩
  rw [hxa] at c1 d1 ws1 ws2
  rw [hxb] at c2 ws2
  rw [hya] at c3
  rw [hyb] at c4
  obtain ⟨n, hn⟩ : ∃ n, X.length = n := ⟨_, rfl⟩
  rw [hn] at HF hru lx hk ⊢
  have wr1 : IntKind.i64.wrap ((k : Int) + 1) = (k : Int) + 1 := IntWalk.i64_in _ (by omega)
  have wr2 : ((k : Int) + 1).toNat = k + 1 := by omega
  have wr3 : IntKind.i64.wrap ((k : Int) + 2) = (k : Int) + 2 := IntWalk.i64_in _ (by omega)
  have wr4 : ((k : Int) + 2).toNat = k + 2 := by omega
  have k0 : (0 : Int) ≤ k := by omega
  have k1 : (k : Int) + 1 < n := by omega
  have k2 : (k : Int) < n := by omega
  have k4 : (0 : Int) ≤ (k : Int) + 1 := by omega
  have k5 : (0 : Int) ≤ (k : Int) + 2 := by omega
  have k6 : (k : Int) + 2 ≤ cu := by omega
  have k7 : k + 2 ≤ cu := by omega
  have k8 : (k : Int) ≤ (k : Int) + 2 := by omega
  have k9 : ¬ cu = k := by omega
  obtain ⟨W, hW, b1, b2⟩ := box_r w 4 (some ⟨bx, ox, none⟩) n cx (some ⟨bu, ou, none⟩) n cu
  obtain ⟨y0, y1, y2⟩ := b1.cell
  have B1 := Hd.mk b1
  have B2 := Hd.mk b2
  have T := Hd.mk (ht.belowK b2)
  have E1 := Hd.mk (cell_of_below b2 (Nat.le_refl _) c1)
  have E2 := Hd.mk (cell_of_below b2 (Nat.le_refl _) c2)
  have E3 := Hd.mk (cell_of_below b2 (Nat.le_refl _) c3)
  have E4 := Hd.mk (cell_of_below b2 (Nat.le_refl _) c4)
  rw [hya] at HLa HH
  rw [hyb] at HLb HH
  clear b1 b2 ht h1 h2 c1 c2 c3 c4 hk hi hh hru hn hCk hc ok lx ly hxa hxb hya hyb wfa wfb wf2 na nb gaw gbw
  go_enter Tryz.func8, Tryz.ntmps8
  go_upto_region 1 with fail
  clear hW
  go_wp2_with fail
  refine (HF.out _ T.out).mono ?_; rintro e w1 ⟨rfl, hb⟩
  have B3 := Hd.mk (B2.out.trans (hb.mono B2.out.size))
  have T3 := Hd.mk (T.out.belowK hb)
  have U3 := Hd.mk (B1.out.below hb)
  obtain ⟨z0, z1, z2⟩ := U3.out.cell
  have g1 := cell_of_below hb (Nat.le_refl _) E1.out
  have g2 := cell_of_below hb (Nat.le_refl _) E2.out
  have g3 := cell_of_below hb (Nat.le_refl _) E3.out
  have g4 := cell_of_below hb (Nat.le_refl _) E4.out
  clear hb y0 y1 y2 B1 E1 E2 E3 E4 T
  go_wp2_with fail
  go_quiet (fail)
  have v0 : (w1.drewN nq).cell? ⟨w.heap.size, 0, none⟩ = _ := z0
  have v1 : (w1.drewN nq).cell? ⟨w.heap.size, 1, none⟩ = _ := z1
  have v2 : (w1.drewN nq).cell? ⟨w.heap.size, 2, none⟩ = _ := z2
  have x1 : (w1.drewN nq).cell? ⟨bx, ox + k, none⟩ = _ := g1
  have x2 : (w1.drewN nq).cell? ⟨bx, ox + (k + 1), none⟩ = _ := g2
  have x3 : (w1.drewN nq).cell? ⟨bu, ou + k, none⟩ = _ := g3
  have x4 : (w1.drewN nq).cell? ⟨bu, ou + (k + 1), none⟩ = _ := g4
  have TQ : Hd (TblR (w1.drewN nq) _ _ _ _) := ⟨T3.out.belowK (below_drewN (Below.refl _ _) nq)⟩
  have UQ : Hd (BoxR (w1.drewN nq) _ _ _ _ _ _ _ _) := ⟨U3.out⟩
  have BQ := Hd.mk (below_drewN B3.out nq)
  generalize w1.drewN nq = w2 at *
  have va2 := fun o => (UQ.out.alloc o).cell.2.2
  clear z0 z1 z2 g1 g2 g3 g4 T3 U3 B3
  have HC1 : Hd (∀ w', Below w2.heap.size w2 w' → w'.cell? ⟨w.heap.size, 2, none⟩ = some (.slice (some ⟨bu, ou, none⟩) n cu) ∧ w'.cell? ⟨bu, ou + k, none⟩ = some (.int .u64 ya) ∧ w'.cell? ⟨bu, ou + (k + 1), none⟩ = some (.int .u64 yb)) := ⟨fun w' hb => ⟨cell_tr hb v2, cell_tr hb x3, cell_tr hb x4⟩⟩
  clear va2 TQ UQ
  go_wp2_with fail
  go_region_held3 (fun w' => w'.cell? ⟨w.heap.size, 2, none⟩ = some (.slice (some ⟨bu, ou, none⟩) n cu) ∧ w'.cell? ⟨bu, ou + k, none⟩ = some (.int .u64 ya) ∧ w'.cell? ⟨bu, ou + (k + 1), none⟩ = some (.int .u64 yb)) (first | exact HC1.out _ (by (repeat (with_reducible first | exact Below.refl _ _ | refine below_dr ?_ | refine below_al ?_ | refine below_tr (by assumption) ?_)))) (
    first
    | (go_at_call_of 25 ya; refine (HLa.out _).mono ?_; rintro en w3 ⟨rfl, hb3⟩)
    | (go_at_call_of 25 yb; refine (HLb.out _).mono ?_; rintro en w4 ⟨rfl, hb4⟩)
    | (go_at_call 23; refine (HO.out _ _ _ _ _ (by (repeat (with_reducible first | exact new_d0 _ _ _ _ _ | exact new_d1 _ _ _ _ _ | exact new_c0 _ _ _ _ | exact new_c1 _ _ _ _ | refine cell_dr ?_ | refine cell_al ?_ | refine cell_tr (by assumption) ?_))) (by (repeat (with_reducible first | exact new_d0 _ _ _ _ _ | exact new_d1 _ _ _ _ _ | exact new_c0 _ _ _ _ | exact new_c1 _ _ _ _ | refine cell_dr ?_ | refine cell_al ?_ | refine cell_tr (by assumption) ?_))) (by (repeat (with_reducible first | exact new_d0 _ _ _ _ _ | exact new_d1 _ _ _ _ _ | exact new_c0 _ _ _ _ | exact new_c1 _ _ _ _ | refine cell_dr ?_ | refine cell_al ?_ | refine cell_tr (by assumption) ?_))) (by (repeat (with_reducible first | exact new_d0 _ _ _ _ _ | exact new_d1 _ _ _ _ _ | exact new_c0 _ _ _ _ | exact new_c1 _ _ _ _ | refine cell_dr ?_ | refine cell_al ?_ | refine cell_tr (by assumption) ?_)))).mono ?_; rintro en w5 ⟨rfl, hb5⟩)
    | (go_at_call 24; refine (HE.out _).mono ?_; rintro en w6 ⟨rfl, hb6⟩; have BX : Below w2.heap.size w2 w6 := by (repeat (with_reducible first | exact Below.refl _ _ | refine below_dr ?_ | refine below_al ?_ | refine below_tr (by assumption) ?_))))
  all_goals
    obtain ⟨u1, u2, u3⟩ := HC1.out _ BX
    have BZ := Hd.mk (BQ.out.trans (BX.mono BQ.out.size))
    clear v0 v1 v2 x1 x2 x3 x4 hb3 hb4 hb5 hb6 BX
    go_wp2_with fail
    go_quiet ((go_at_call 26; exact Calls.quiet_of_same ((HH.out _).mono fun _ _ h => ⟨h.1, h.2.symm⟩)))
    go_wp2_with fail
    go_ret2
    exact ⟨rfl, below_drewN BZ.out _⟩

/-- At, as a whole. -/
theorem atr_any {kind : Int} {ax : Option Addr} {X : List Int} {cx : Nat} {au : Option Addr} {Y : List Nat} {cu : Nat} (hCk : CheckR kind ax X cx au Y cu) (x : Int) (w : World) (ht : TblR w ax X au Y) (hru : Y.length ≤ cu ∧ cu ≤ 9223372036854775807) :
    Calls Tryz.prog 8 #[.agg #[.int .i64 kind, .slice ax X.length cx, .slice au Y.length cu], .int .i64 x] w (AtRetU (atT kind X Y x) w) := by
  unfold atT
  by_cases hc : chkT kind X Y = 0
  · rw [if_pos hc]
    obtain ⟨ok, kl, kh, k4⟩ := chk_ok hc (ht.uy (chk_le hc)).wf
    have hru' := hru
    rw [ok.ly] at hru'
    by_cases hx : x < X.getD 0 0 ∨ lastT X < x
    · rw [if_pos hx]
      have e : fdT kind X Y x = (0, 51) := by unfold fdT; rw [if_pos hc, if_pos hx]
      have := atr_bad hCk x w ht (by rw [e]; decide)
      rwa [e] at this
    · rw [if_neg hx]
      have e := fd_ok hc hx
      obtain ⟨f1, f2, f3, _⟩ := fnd_ok ok (show X.getD 0 0 ≤ x by omega)
      by_cases hn : X.getD (fndT X x) 0 = x
      · rw [if_pos hn]
        exact atr_node hCk x w ht (chk_le hc) _ f1 ok.ly e (.inl hn)
      · rw [if_neg hn]
        obtain ⟨g1, g2, g3⟩ := fnd_in ok (show X.getD 0 0 ≤ x by omega) (show x ≤ lastT X by omega) hn
        have st := ok.step g1
        generalize fndT X x = k at *
        obtain ⟨i, hi⟩ : ∃ i, x - X.getD k 0 = i := ⟨_, rfl⟩
        obtain ⟨h, hh⟩ : ∃ h, X.getD (k + 1) 0 - X.getD k 0 = h := ⟨_, rfl⟩
        rw [hi, hh] at g3
        rw [hi] at g2
        rw [hh] at st
        rw [hi, hh]
        unfold btT
        by_cases e1 : kind = 1
        · rw [if_pos e1]
          exact atr_node hCk x w ht (chk_le hc) _ f1 ok.ly e (.inr e1)
        rw [if_neg e1]
        by_cases e2 : kind = 2
        · subst e2
          rw [if_pos rfl]
          exact atr_linear hCk hc ok x w ht hru' k g1 e hn i h hi hh g2 g3 st.1 st.2
        rw [if_neg e2]
        by_cases e3 : kind = 3
        · subst e3
          rw [if_pos rfl]
          exact atr_cubic hCk hc ok x w ht hru' k g1 e hn i h hi hh g2 g3 st.1 st.2
        rw [if_neg e3]
        have e4 : kind = 4 := by omega
        subst e4
        exact atr_logs hCk hc ok x w ht hru' k g1 e hn i h hi hh g2 g3 st.1 st.2
  · rw [if_neg hc]
    have e : fdT kind X Y x = (0, chkT kind X Y) := by unfold fdT; rw [if_neg hc]
    have := atr_bad hCk x w ht (by rw [e]; exact hc)
    rwa [e] at this

end Go.Proofs.YtmmcnjoeepgpgaaGreat
