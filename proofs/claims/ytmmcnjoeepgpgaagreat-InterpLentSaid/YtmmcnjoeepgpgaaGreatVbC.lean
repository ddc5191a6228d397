/- The walk of the reference's Points (tenorref10). -/
import Derived.Test.YtmmcnjoeepgpgaaGreatVaC
import Derived.Test.YtmmcnjoeepgpgaaGreatM12
import Derived.Test.YtmmcnjoeepgpgaaGreatM4
namespace Go.Proofs.YtmmcnjoeepgpgaaGreat
open Go.RowKit
set_option linter.unusedSimpArgs false
set_option linter.unusedVariables false

set_option maxHeartbeats 3200000 in
set_option maxRecDepth 100000 in
theorem points10r_bad {kind : Int} {ax : Option Addr} {X : List Int} {cx : Nat} {au : Option Addr} {Y : List Nat} {cu : Nat} (hCk : CheckR kind ax X cx au Y cu) (hc : chkT kind X Y ≠ 0) (k : Int) (w : World) (ht : TblR w ax X au Y) :
    Calls Tryz.prog 14 #[.agg #[.int .i64 kind, .slice ax X.length cx, .slice au Y.length cu], .int .i64 k] w fun e w' => e = .returned (.tuple #[.slice none 0 0, .int .i64 (chkT kind X Y)]) ∧ Below w.heap.size w w' := by
  have HS := Hd.mk fun w1 h => slopes10r_bad hCk hc w1 h
  have d1 : (chkT kind X Y != 0) = true := by rw [bne_iff_ne]; exact hc
  generalize chkT kind X Y = E at *
  generalize X.length = n at *
  generalize Y.length = m at *
  obtain ⟨W, hW, b1, b2⟩ := box_r w kind ax n cx au m cu
  obtain ⟨y0, y1, y2⟩ := b1.cell
  have B2 := Hd.mk b2
  have T := Hd.mk (ht.belowK b2)
  clear b1 b2 ht hc hCk
  go_enter Tryz.func14, Tryz.ntmps14
  go_upto_region 1 with fail
  clear hW
  go_wp2_with fail
  refine (HS.out _ T.out).mono ?_; rintro e w1 ⟨rfl, hb⟩
  have B3 := Hd.mk (B2.out.trans (hb.mono B2.out.size))
  clear hb
  go_wp2_with fail
  go_ret2
  exact ⟨rfl, B3.out⟩

set_option maxHeartbeats 3200000 in
set_option maxRecDepth 100000 in
theorem points10r_out {kind : Int} {ax : Option Addr} {X : List Int} {cx : Nat} {au : Option Addr} {Y : List Nat} {cu : Nat} (hCk : CheckR kind ax X cx au Y cu) (hc : chkT kind X Y = 0) (k : Int) (hk : k < 0 ∨ (X.length : Int) - 1 ≤ k) (w : World) (ht : TblR w ax X au Y) :
    Calls Tryz.prog 14 #[.agg #[.int .i64 kind, .slice ax X.length cx, .slice au Y.length cu], .int .i64 k] w fun e w' => e = .returned (.tuple #[.slice none 0 0, .int .i64 51]) ∧ Below w.heap.size w w' := by
  have HS := Hd.mk fun w1 h => slopes10r_ok hCk hc w1 h
  have nmax := (chk_ok hc (ht.uy (chk_le hc)).wf).1.max
  generalize slT X Y X.length = f at *
  generalize X.length = n at *
  generalize Y.length = m at *
  have wr1 : IntKind.i64.wrap ((n : Int) - 1) = (n : Int) - 1 := IntWalk.i64_in _ (by omega)
  have n1 : (n : Int) ≤ 256 := by omega
  obtain ⟨W, hW, b1, b2⟩ := box_r w kind ax n cx au m cu
  obtain ⟨y0, y1, y2⟩ := b1.cell
  have B1 := Hd.mk b1
  have B2 := Hd.mk b2
  have T := Hd.mk (ht.belowK b2)
  clear b1 b2 ht hc hCk nmax
  by_cases h0 : k < 0
  · have d1 := decide_eq_true h0
    clear hk h0
    go_enter Tryz.func14, Tryz.ntmps14
    go_upto_region 1 with fail
    clear hW
    go_wp2_with fail
    refine (HS.out _ T.out).mono ?_; rintro e w1 ⟨a, c, rfl, _, _, hb⟩
    obtain ⟨z0, z1, z2⟩ := (B1.out.below hb).cell
    have B3 := Hd.mk (B2.out.trans (hb.mono B2.out.size))
    clear hb y0 y1 y2
    go_wp2_with fail
    go_ret2
    exact ⟨rfl, B3.out⟩
  · have d1 : decide (k < 0) = false := decide_eq_false h0
    have d2 : decide (k ≥ (n : Int) - 1) = true := by simp; omega
    have d3 : k ≥ (n : Int) - 1 := by omega
    clear hk h0
    go_enter Tryz.func14, Tryz.ntmps14
    go_upto_region 1 with fail
    clear hW
    go_wp2_with fail
    refine (HS.out _ T.out).mono ?_; rintro e w1 ⟨a, c, rfl, _, _, hb⟩
    obtain ⟨z0, z1, z2⟩ := (B1.out.below hb).cell
    have B3 := Hd.mk (B2.out.trans (hb.mono B2.out.size))
    clear hb y0 y1 y2
    go_wp2_with fail
    go_ret2
    exact ⟨rfl, B3.out⟩

set_option maxHeartbeats 6400000 in
set_option maxRecDepth 100000 in
theorem points10r_ok {kind : Int} {ax : Option Addr} {X : List Int} {cx : Nat} {au : Option Addr} {Y : List Nat} {cu : Nat} (hCk : CheckR kind ax X cx au Y cu) (hc : chkT kind X Y = 0) (k : Nat) (hk : k + 1 < X.length) (w : World) (ht : TblR w ax X au Y) :
    Calls Tryz.prog 14 #[.agg #[.int .i64 kind, .slice ax X.length cx, .slice au Y.length cu], .int .i64 k] w (RowRetU 4 (ptF X Y X.length k) w) := by
  have HS := Hd.mk fun w1 h => slopes10r_ok hCk hc w1 h
  have ok := (chk_ok hc (ht.uy (chk_le hc)).wf).1
  have nmax := ok.max
  rw [ok.ly] at HS ⊢
  obtain ⟨f1, f2, f3⟩ := ok.fi hk
  have hst := ok.step hk
  have HR : Hd (wds (slR (ptF X Y X.length k) 4) = [.int .u64 (Y.getD k 0 : Nat), .int .u64 (pcT X Y X.length k : Nat), .int .u64 (peT X Y X.length k : Nat), .int .u64 (Y.getD (k + 1) 0 : Nat)]) := ⟨by
    rw [wds_slR, wds_slR, wds_slR, wds_slR]; rfl⟩
  have HFp := Hd.mk fun j => F64_ptF (k := k) ok j
  have HInt := Hd.mk (rInt_any (X.getD (k + 1) 0 - X.getD k 0) (by omega) (by omega))
  have HI3 : Hd (∀ w, Calls Tryz.prog 36 #[.int .i64 3] w (URet thr64 w)) := ⟨fun w => by
    have := rInt_any 3 (by decide) (by decide) w
    rw [show floatOfInt .f64 3 = thr64 from thr_ok.2.2.2] at this
    exact this⟩
  have M1 := Hd.mk (rMul_any (slT X Y X.length k) (FI (X.getD (k + 1) 0 - X.getD k 0)) (F64_slT _ _ _ _) f1)
  have D1 := Hd.mk (rDiv_any (fmul (slT X Y X.length k) (FI (X.getD (k + 1) 0 - X.getD k 0))) thr64 (F64_fmul _ _) thr_ok.1)
  have A1 := Hd.mk (rAdd_any (Y.getD k 0) (fdiv (fmul (slT X Y X.length k) (FI (X.getD (k + 1) 0 - X.getD k 0))) thr64) (ok.wf _) (F64_fdiv _ _))
  have n1 := nn_fin _ (ok.fn k (by omega))
  have n2 := nn_fin _ (ok.fn (k + 1) hk)
  have h1 : Hd (∀ w, Calls Tryz.prog 26 #[.int .u64 (fadd (Y.getD k 0) (fdiv (fmul (slT X Y X.length k) (FI (X.getD (k + 1) 0 - X.getD k 0))) thr64) : Nat), .int .u64 (Y.getD k 0 : Nat), .int .u64 (Y.getD (k + 1) 0 : Nat)] w fun e w' => e = .returned (.int .u64 (pcT X Y X.length k : Nat)) ∧ w = w') := ⟨fun w => held10r_any _ _ _ (F64_fadd _ _) (ok.wf _) (ok.wf _) n1 n2 w⟩
  have M2 := Hd.mk (rMul_any (slT X Y X.length (k + 1)) (FI (X.getD (k + 1) 0 - X.getD k 0)) (F64_slT _ _ _ _) f1)
  have D2 := Hd.mk (rDiv_any (fmul (slT X Y X.length (k + 1)) (FI (X.getD (k + 1) 0 - X.getD k 0))) thr64 (F64_fmul _ _) thr_ok.1)
  have A2 := Hd.mk (rSub_any (Y.getD (k + 1) 0) (fdiv (fmul (slT X Y X.length (k + 1)) (FI (X.getD (k + 1) 0 - X.getD k 0))) thr64) (ok.wf _) (F64_fdiv _ _))
  have h2 : Hd (∀ w, Calls Tryz.prog 26 #[.int .u64 (fsub (Y.getD (k + 1) 0) (fdiv (fmul (slT X Y X.length (k + 1)) (FI (X.getD (k + 1) 0 - X.getD k 0))) thr64) : Nat), .int .u64 (pcT X Y X.length k : Nat), .int .u64 (Y.getD (k + 1) 0 : Nat)] w fun e w' => e = .returned (.int .u64 (peT X Y X.length k : Nat)) ∧ w = w') := ⟨fun w => held10r_any _ _ _ (F64_fsub _ _) (F64_pcT ok) (ok.wf _) (pc_ok ok hk).1 n2 w⟩
  unfold FI at M1 D1 A1 h1 M2 D2 A2 h2
  obtain ⟨W, hW, b1, b2⟩ := box_r w kind ax X.length cx au X.length cu
  obtain ⟨y0, y1, y2⟩ := b1.cell
  have B1 := Hd.mk b1
  have B2 := Hd.mk b2
  have T := Hd.mk (ht.belowK b2)
  obtain ⟨bx, ox, hax, c1⟩ := T.out.ix.at k (by omega)
  obtain ⟨bx', ox', hax', c2⟩ := T.out.ix.at (k + 1) (by omega)
  rw [hax] at hax'
  cases hax'
  obtain ⟨bu, ou, hau, c3⟩ := (T.out.uy (chk_le hc)).at k (by rw [ok.ly]; omega)
  obtain ⟨bu', ou', hau', c4⟩ := (T.out.uy (chk_le hc)).at (k + 1) (by rw [ok.ly]; omega)
  rw [hau] at hau'
  cases hau'
  have wr0 : IntKind.i64.wrap (X.getD (k + 1) 0 - X.getD k 0) = X.getD (k + 1) 0 - X.getD k 0 := IntWalk.i64_in _ (by omega)
  subst hax
  subst hau
  have HDat : Hd (∀ (w1 : World) (a : Addr), Us w1 (some a) (slR (slT X Y X.length) X.length) → ∃ b o, some a = some ⟨b, o, none⟩ ∧ w1.cell? ⟨b, o + k, none⟩ = some (.int .u64 (slT X Y X.length k : Nat)) ∧ w1.cell? ⟨b, o + (k + 1), none⟩ = some (.int .u64 (slT X Y X.length (k + 1) : Nat))) := ⟨fun w1 a h => by
    have hl : (slR (slT X Y X.length) X.length).length = X.length := by unfold slR; simp
    have hg : ∀ j, j < X.length → (slR (slT X Y X.length) X.length).getD j 0 = slT X Y X.length j := fun j hj => by
      unfold slR
      rw [List.getD_eq_getElem?_getD, List.getElem?_map, List.getElem?_range hj]
      rfl
    obtain ⟨b, o, e, g1⟩ := h.at k (by omega)
    obtain ⟨b', o', e', g2⟩ := h.at (k + 1) (by omega)
    rw [e] at e'
    cases e'
    rw [hg k (by omega)] at g1
    rw [hg (k + 1) hk] at g2
    exact ⟨b, o, e, g1, g2⟩⟩
  clear ht hc hCk f1 f2 f3 n1 n2 b1 b2
  generalize hn : X.length = n at *
  have w0 : IntKind.i64.wrap ((n : Int) - 1) = (n : Int) - 1 := IntWalk.i64_in _ (by omega)
  have wr1 : IntKind.i64.wrap ((k : Int) + 1) = (k : Int) + 1 := IntWalk.i64_in _ (by omega)
  have wr2 : ((k : Int) + 1).toNat = k + 1 := by omega
  have p0 : (0 : Int) ≤ k := by omega
  have p1 : (k : Int) < n := by omega
  have p2 : (0 : Int) ≤ (k : Int) + 1 := by omega
  have p3 : (k : Int) + 1 < n := by omega
  have d1 : decide ((k : Int) ≥ (n : Int) - 1) = false := by simp; omega
  have d2 : (k : Int) < (n : Int) - 1 := by omega
  have d3 : decide ((k : Int) < 0) = false := by simp
  clear ok nmax hst hk hn
  generalize floatOfInt .f64 (X.getD (k + 1) 0 - X.getD k 0) = H at *
  generalize slT X Y n k = s1 at *
  generalize slT X Y n (k + 1) = s2 at *
  generalize fmul s1 H = m1 at *
  generalize fmul s2 H = m2 at *
  generalize fdiv m1 thr64 = q1 at *
  generalize fdiv m2 thr64 = q2 at *
  generalize pcT X Y n k = P at *
  generalize peT X Y n k = Q at *
  generalize X.getD k 0 = xa at *
  generalize X.getD (k + 1) 0 = xb at *
  generalize Y.getD k 0 = ya at *
  generalize Y.getD (k + 1) 0 = yb at *
  generalize fadd ya q1 = v1 at *
  generalize fsub yb q2 = v2 at *
  go_enter Tryz.func14, Tryz.ntmps14
  go_upto_region 1 with fail
  clear hW
  go_wp2_with fail
  refine (HS.out _ T.out).mono ?_; rintro e w1 ⟨a, c, rfl, hu, _, hb⟩
  obtain ⟨bs, os, has, g1, g2⟩ := HDat.out _ _ hu
  cases has
  have B3 := Hd.mk (B2.out.trans (hb.mono B2.out.size))
  obtain ⟨z0, z1, z2⟩ := (B1.out.below hb).cell
  have e1 := cell_of_below hb (Nat.le_refl _) c1
  have e2 := cell_of_below hb (Nat.le_refl _) c2
  have e3 := cell_of_below hb (Nat.le_refl _) c3
  have e4 := cell_of_below hb (Nat.le_refl _) c4
  clear hb hu y0 y1 y2 c1 c2 c3 c4
  go_wp2_with fail
  have S0 : w1.drew.cell? ⟨w.heap.size, 1, none⟩ = some (.slice (some ⟨bx, ox, none⟩) n cx) ∧ w1.drew.cell? ⟨bx, ox + k, none⟩ = some (.int .i64 xa) ∧ w1.drew.cell? ⟨bx, ox + (k + 1), none⟩ = some (.int .i64 xb) ∧ w1.drew.cell? ⟨bs, os + k, none⟩ = some (.int .u64 s1) ∧ w1.drew.cell? ⟨bs, os + (k + 1), none⟩ = some (.int .u64 s2) ∧ w1.drew.cell? ⟨w.heap.size, 0, none⟩ = some (.int .i64 kind) := ⟨z1, e1, e2, g1, g2, z0⟩
  have BD := Hd.mk B3.out.drew
  go_region_held3 (fun w' => w'.cell? ⟨w.heap.size, 1, none⟩ = some (.slice (some ⟨bx, ox, none⟩) n cx) ∧ w'.cell? ⟨bx, ox + k, none⟩ = some (.int .i64 xa) ∧ w'.cell? ⟨bx, ox + (k + 1), none⟩ = some (.int .i64 xb) ∧ w'.cell? ⟨bs, os + k, none⟩ = some (.int .u64 s1) ∧ w'.cell? ⟨bs, os + (k + 1), none⟩ = some (.int .u64 s2) ∧ w'.cell? ⟨w.heap.size, 0, none⟩ = some (.int .i64 kind)) (first | assumption) (
    first
    | (go_at_call 36; refine (HInt.out _).mono ?_; rintro en w2 ⟨rfl, hb⟩; have SB := keep6 hb S0; have CB := below_go (w := w) hb BD; clear hb))
  obtain ⟨_, _, _, h1', h2', _⟩ := SB
  clear z0 z1 z2 e1 e2 e3 e4 g1 g2 S0 BD B3
  go_wp2_with fail
  refine (HI3.out _).mono ?_; rintro en w3 ⟨rfl, hb⟩
  have C3 := below_go (w := w) hb CB
  have k13 := cell_of_below hb (Nat.le_refl _) h1'
  have k23 := cell_of_below hb (Nat.le_refl _) h2'
  clear hb h1' h2'
  go_wp2_with fail
  refine (M1.out _).mono ?_; rintro en w4 ⟨rfl, hb⟩
  have C4 := below_go (w := w) hb C3
  have k14 := cell_of_below hb (Nat.le_refl _) k13
  have k24 := cell_of_below hb (Nat.le_refl _) k23
  clear hb k13 k23
  go_wp2_with fail
  refine (D1.out _).mono ?_; rintro en w5 ⟨rfl, hb⟩
  have C5 := below_go (w := w) hb C4
  have k15 := cell_of_below hb (Nat.le_refl _) k14
  have k25 := cell_of_below hb (Nat.le_refl _) k24
  clear hb k14 k24
  go_wp2_with fail
  refine (A1.out _).mono ?_; rintro en w6 ⟨rfl, hb⟩
  have C6 := below_go (w := w) hb C5
  have k16 := cell_of_below hb (Nat.le_refl _) k15
  have k26 := cell_of_below hb (Nat.le_refl _) k25
  clear hb k15 k25
  go_wp2_with fail
  refine (h1.out _).mono ?_; rintro en w' ⟨rfl, rfl⟩
  go_wp2_with fail
  refine (M2.out _).mono ?_; rintro en w7 ⟨rfl, hb⟩
  have C7 := below_go (w := w) hb C6
  have k17 := cell_of_below hb (Nat.le_refl _) k16
  have k27 := cell_of_below hb (Nat.le_refl _) k26
  clear hb k16 k26
  go_wp2_with fail
  refine (D2.out _).mono ?_; rintro en w8 ⟨rfl, hb⟩
  have C8 := below_go (w := w) hb C7
  have k18 := cell_of_below hb (Nat.le_refl _) k17
  have k28 := cell_of_below hb (Nat.le_refl _) k27
  clear hb k17 k27
  go_wp2_with fail
  refine (A2.out _).mono ?_; rintro en w9 ⟨rfl, hb⟩
  have C9 := below_go (w := w) hb C8
  have k19 := cell_of_below hb (Nat.le_refl _) k18
  have k29 := cell_of_below hb (Nat.le_refl _) k28
  clear hb k18 k28
  go_wp2_with fail
  refine (h2.out _).mono ?_; rintro en w' ⟨rfl, rfl⟩
  have HO := Hd.mk (World.ownsRow_lit (e := 31) (size := 1) (base := w.heap.size) w9 #[.int .u64 (ya : Nat), .int .u64 (P : Nat), .int .u64 (Q : Nat), .int .u64 (yb : Nat)] 4 C9.out.size (by decide) rfl)
  have HB := Hd.mk (C9.out.alloc C9.out.size (.cells #[.int .u64 (ya : Nat), .int .u64 (P : Nat), .int .u64 (Q : Nat), .int .u64 (yb : Nat)] 31))
  go_wp2_with fail
  go_ret2
  have ho : (w9.alloc (.cells #[.int .u64 (ya : Nat), .int .u64 (P : Nat), .int .u64 (Q : Nat), .int .u64 (yb : Nat)] 31)).ownsRow w.heap.size 31 1 (.slice (some ⟨w9.heap.size, 0, none⟩) 4 4) 4 (wds (slR (ptF X Y n k) 4)) := by rw [HR.out]; exact HO.out
  obtain ⟨a, c, e, hu, hr⟩ := us_slR (n := 4) (f := ptF X Y n k) (by omega) (by omega) HFp.out ho
  simp only [Value.slice.injEq, Option.some.injEq] at e
  obtain ⟨rfl, _, rfl⟩ := e
  exact ⟨_, 4, rfl, hu, hr, HB.out⟩

end Go.Proofs.YtmmcnjoeepgpgaaGreat
