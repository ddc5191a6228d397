/- The walk of InterpSlopes. -/
import Derived.Test.YtmmcnjoeepgpgaaGreatVgC
namespace Go.Proofs.YtmmcnjoeepgpgaaGreat
open Go.RowKit
set_option linter.unusedSimpArgs false
set_option linter.unusedVariables false

theorem fls_none (w : World) : Fls w none [] := ⟨fun _ => rfl, (fun b o v h => by cases h), (fun i => (show F64 0 from ⟨by decide⟩)), (by simp)⟩
theorem us_none (w : World) : Us w none [] := ⟨fun _ => rfl, (fun b o v h => by cases h), (fun i => (show F64 0 from ⟨by decide⟩)), (by simp)⟩
/-- The slopes, and what is wrong. -/
def slpT (kind : Int) (X : List Int) (Y : List Nat) : List Nat × Int := if chkT kind X Y = 0 then (rowL X.length (slT X Y X.length), 0) else ([], chkT kind X Y)
/-- The points, and what is wrong. -/
def ptsT (kind : Int) (X : List Int) (Y : List Nat) (k : Int) : List Nat × Int :=
  if chkT kind X Y = 0 then (if k < 0 ∨ (X.length : Int) - 1 ≤ k then ([], 51) else (rowL 4 (ptF X Y X.length k.toNat), 0)) else ([], chkT kind X Y)
def RetF (L : List Nat × Int) (w : World) (e : Ending) (w' : World) : Prop := ∃ a c, e = .returned (.tuple #[.slice a L.1.length c, .int .i64 L.2]) ∧ Hd (Fls w' a L.1) ∧ Hd (Below w.heap.size w w')
def RetU (L : List Nat × Int) (w : World) (e : Ending) (w' : World) : Prop := ∃ a c, e = .returned (.tuple #[.slice a L.1.length c, .int .i64 L.2]) ∧ Hd (Us w' a L.1) ∧ Hd (Below w.heap.size w w')

theorem slopesX_any (kind : Int) (ax : Option Addr) (X : List Int) (cx : Nat) (ay : Option Addr) (Y : List Nat) (cy : Nat) (w : World) (ht : Tbl w ax X ay Y) :
    Calls Tryz.prog 11 #[.agg #[.int .i64 kind, .slice ax X.length cx, .slice ay Y.length cy]] w (RetF (slpT kind X Y) w) := by
  by_cases hc : chkT kind X Y = 0
  · have hm := (chk_ok hc ht.fy.wf).1.max
    refine (slopesX_ok kind ax X cx ay Y cy w ht hc).mono fun e w' h => ?_
    obtain ⟨b, rfl, hf⟩ := h
    unfold slpT
    rw [if_pos hc]
    exact ⟨some ⟨b, 0, none⟩, X.length, by rw [rowL_len], ⟨hf.fls (by omega)⟩, ⟨hf.below⟩⟩
  · refine (slopesX_bad kind ax X cx ay Y cy w ht hc).mono fun e w' h => ?_
    obtain ⟨rfl, hb⟩ := h
    unfold slpT
    rw [if_neg hc]
    exact ⟨none, 0, rfl, ⟨fls_none _⟩, ⟨hb⟩⟩
theorem slopesR_any {kind : Int} {ax : Option Addr} {X : List Int} {cx : Nat} {au : Option Addr} {Y : List Nat} {cu : Nat} (w : World) (ht : TblR w ax X au Y) :
    Calls Tryz.prog 12 #[.agg #[.int .i64 kind, .slice ax X.length cx, .slice au Y.length cu]] w (RetU (slpT kind X Y) w) := by
  have hCk : CheckR kind ax X cx au Y cu := fun w1 h => check10r_any kind ax X cx au Y cu w1 h
  by_cases hc : chkT kind X Y = 0
  · refine (slopes10r_ok hCk hc w ht).mono fun e w' h => ?_
    obtain ⟨a, c, rfl, hu, _, hb⟩ := h
    unfold slpT
    rw [if_pos hc]
    exact ⟨some a, c, by rw [rowL_len], ⟨hu⟩, ⟨hb⟩⟩
  · refine (slopes10r_bad hCk hc w ht).mono fun e w' h => ?_
    obtain ⟨rfl, hb⟩ := h
    unfold slpT
    rw [if_neg hc]
    exact ⟨none, 0, rfl, ⟨us_none _⟩, ⟨hb⟩⟩
theorem pointsX_any (kind : Int) (ax : Option Addr) (X : List Int) (cx : Nat) (ay : Option Addr) (Y : List Nat) (cy : Nat) (k : Int) (w : World) (ht : Tbl w ax X ay Y) :
    Calls Tryz.prog 13 #[.agg #[.int .i64 kind, .slice ax X.length cx, .slice ay Y.length cy], .int .i64 k] w (RetF (ptsT kind X Y k) w) := by
  by_cases hc : chkT kind X Y = 0
  · by_cases hk : k < 0 ∨ (X.length : Int) - 1 ≤ k
    · refine (pointsX_out kind ax X cx ay Y cy k w ht hc hk).mono fun e w' h => ?_
      obtain ⟨rfl, hb⟩ := h
      unfold ptsT
      rw [if_pos hc, if_pos hk]
      exact ⟨none, 0, rfl, ⟨fls_none _⟩, ⟨hb⟩⟩
    · obtain ⟨j, rfl⟩ := Int.eq_ofNat_of_zero_le (show 0 ≤ k by omega)
      refine (pointsX_ok kind ax X cx ay Y cy j w ht hc (by omega)).mono fun e w' h => ?_
      obtain ⟨b, rfl, hf⟩ := h
      unfold ptsT
      rw [if_pos hc, if_neg hk]
      exact ⟨some ⟨b, 0, none⟩, 4, by rw [rowL_len], ⟨hf.fls (by omega)⟩, ⟨hf.below⟩⟩
  · refine (pointsX_bad kind ax X cx ay Y cy k w ht hc).mono fun e w' h => ?_
    obtain ⟨rfl, hb⟩ := h
    unfold ptsT
    rw [if_neg hc]
    exact ⟨none, 0, rfl, ⟨fls_none _⟩, ⟨hb⟩⟩
theorem pointsR_any {kind : Int} {ax : Option Addr} {X : List Int} {cx : Nat} {au : Option Addr} {Y : List Nat} {cu : Nat} (k : Int) (w : World) (ht : TblR w ax X au Y) :
    Calls Tryz.prog 14 #[.agg #[.int .i64 kind, .slice ax X.length cx, .slice au Y.length cu], .int .i64 k] w (RetU (ptsT kind X Y k) w) := by
  have hCk : CheckR kind ax X cx au Y cu := fun w1 h => check10r_any kind ax X cx au Y cu w1 h
  by_cases hc : chkT kind X Y = 0
  · by_cases hk : k < 0 ∨ (X.length : Int) - 1 ≤ k
    · refine (points10r_out hCk hc k hk w ht).mono fun e w' h => ?_
      obtain ⟨rfl, hb⟩ := h
      unfold ptsT
      rw [if_pos hc, if_pos hk]
      exact ⟨none, 0, rfl, ⟨us_none _⟩, ⟨hb⟩⟩
    · obtain ⟨j, rfl⟩ := Int.eq_ofNat_of_zero_le (show 0 ≤ k by omega)
      refine (points10r_ok hCk hc j (by omega) w ht).mono fun e w' h => ?_
      obtain ⟨a, c, rfl, hu, _, hb⟩ := h
      unfold ptsT
      rw [if_pos hc, if_neg hk]
      exact ⟨some a, c, by rw [rowL_len], ⟨hu⟩, ⟨hb⟩⟩
  · refine (points10r_bad hCk hc k w ht).mono fun e w' h => ?_
    obtain ⟨rfl, hb⟩ := h
    unfold ptsT
    rw [if_neg hc]
    exact ⟨none, 0, rfl, ⟨us_none _⟩, ⟨hb⟩⟩

/-- Two lists that are one. -/
theorem are_one (a a' : Option Addr) (l : List Nat) (c c' : Nat) (w : World) (hl : Fls w a l) (hu : Us w a' l) :
    Calls Tryz.prog 15 #[.slice a l.length c, .slice a' l.length c'] w fun e w' => e = .returned (.bool true) ∧ ∃ k, w' = w.drewN k :=
  are_true a a' l l l.length c c' rfl rfl w hl hu (fun i _ => same_of_cn rfl)

set_option maxHeartbeats 3200000 in
set_option maxRecDepth 100000 in
theorem interpSlopes_any (kind : Int) (ax : Option Addr) (X : List Int) (cx : Nat) (ay : Option Addr) (Y : List Nat) (cy : Nat) (k : Int) (w : World) (_hk : -9223372036854775808 ≤ kind ∧ kind ≤ 9223372036854775807) (ht : Tbl w ax X ay Y) (_hrx : Room ax X.length cx) (_hry : Room ay Y.length cy) (_hx : (Lit.int .i64 k).wf = true) (hsz : Y.length ≤ 17592186044416) :
    Calls Tryz.prog 4 #[.agg #[.int .i64 kind, .slice ax X.length cx, .slice ay Y.length cy], .int .i64 k] w fun e w' => e = .returned (.bool true) ∧ Below w.heap.size w w' := by
  have lx := ht.ix.len
  have ly := ht.fy.len
  by_cases hl : 60 < X.length
  · obtain ⟨W, hW, b1, b2⟩ := box_t w kind ax X.length cx ay Y.length cy
    obtain ⟨y0, y1, y2⟩ := b1.cell
    have B2 := Hd.mk b2
    generalize X.length = n at *
    generalize Y.length = m at *
    clear b1 b2 ht
    have d1 : decide ((n : Int) > 60) = true := by simp; omega
    clear hl
    go_enter Tryz.func4, Tryz.ntmps4
    go_upto_region 1 with fail
    clear hW
    go_wp2_with fail
    refine (awake10_any _).mono ?_; rintro e w3 ⟨rfl, hb⟩
    have C3 := Hd.mk (B2.out.trans (hb.mono B2.out.size))
    clear hb
    go_wp2_with fail
    go_ret
    exact ⟨rfl, C3.out⟩
  have d1 : decide ((X.length : Int) > 60) = false := by simp; omega
  have HO := Hd.mk fun w1 (h : Tbl w1 ax X ay Y) => (of10_any kind ax X.length cx ay Y cy w1 h.fy hsz).mono fun _ _ h2 => OfRet.tbl2 h h2
  have HS := Hd.mk fun w1 h => slopesX_any kind ax X cx ay Y cy w1 h
  have HP := Hd.mk fun w1 h => pointsX_any kind ax X cx ay Y cy k w1 h
  have HRS := Hd.mk fun au cu w1 h => slopesR_any (kind := kind) (ax := ax) (X := X) (cx := cx) (au := au) (Y := Y) (cu := cu) w1 h
  have HRP := Hd.mk fun au cu w1 h => pointsR_any (kind := kind) (ax := ax) (X := X) (cx := cx) (au := au) (Y := Y) (cu := cu) k w1 h
  obtain ⟨L, E, hL⟩ : ∃ L E, slpT kind X Y = (L, E) := ⟨_, _, rfl⟩
  obtain ⟨M, F, hM⟩ : ∃ M F, ptsT kind X Y k = (M, F) := ⟨_, _, rfl⟩
  rw [hL] at HS HRS
  rw [hM] at HP HRP
  unfold RetF at HS HP
  unfold RetU at HRS HRP
  dsimp only at HS HP HRS HRP
  have HA1 := Hd.mk fun a a' c c' w => are_one a a' L c c' w
  have HA2 := Hd.mk fun a a' c c' w => are_one a a' M c c' w
  have e4 : (E == E) = true := by simp
  have e5 : (F == F) = true := by simp
  obtain ⟨W, hW, b1, b2⟩ := box_t w kind ax X.length cx ay Y.length cy
  obtain ⟨y0, y1, y2⟩ := b1.cell
  have B1 := Hd.mk b1
  have B2 := Hd.mk b2
  have T := Hd.mk (ht.belowK b2)
  generalize X.length = n at *
  generalize Y.length = m at *
  generalize L.length = nl at *
  generalize M.length = nm at *
  clear b1 b2 ht hL hM hl lx ly
  go_enter Tryz.func4, Tryz.ntmps4
  go_upto_region 1 with fail
  clear hW
  go_wp2_with fail
  refine (HO.out _ T.out).mono ?_; rintro e w1 ⟨au, cu, rfl, R1, RR, hb⟩
  have C1 := Hd.mk (B2.out.trans (hb.out.mono B2.out.size))
  have T1 := Hd.mk (T.out.belowK hb.out)
  have U1 := Hd.mk (B1.out.below hb.out)
  clear hb y0 y1 y2 B1 B2 T
  obtain ⟨V, hV, v1, v2⟩ := box_r w1 kind ax n cx au m cu
  have V1 := Hd.mk v1
  have C2 := Hd.mk (C1.out.trans (v2.mono C1.out.size))
  have T2 := Hd.mk (T1.out.belowK v2)
  have U2 := Hd.mk (U1.out.below v2)
  have R2 := Hd.mk (R1.out.belowK v2)
  clear v1 v2 C1 T1 U1 R1 RR
  obtain ⟨z0, z1, z2⟩ := U2.out.cell
  obtain ⟨x0, x1, x2⟩ := V1.out.cell
  go_wp2_with fail
  refine (HS.out _ T2.out).mono ?_; rintro e w2 ⟨a1, c1, rfl, f1, hb⟩
  have C3 := Hd.mk (C2.out.trans (hb.out.mono C2.out.size))
  have T3 := Hd.mk (T2.out.belowK hb.out)
  have U3 := Hd.mk (U2.out.below hb.out)
  have R3 := Hd.mk (R2.out.belowK hb.out)
  have V3 := Hd.mk (V1.out.below hb.out)
  clear hb z0 z1 z2 x0 x1 x2 hV
  obtain ⟨z0, z1, z2⟩ := U3.out.cell
  obtain ⟨x0, x1, x2⟩ := V3.out.cell
  go_wp2_with fail
  refine (HRS.out _ _ _ R3.out).mono ?_; rintro e w3 ⟨a2, c2, rfl, f2, hb⟩
  have C4 := Hd.mk (C3.out.trans (hb.out.mono C3.out.size))
  have T4 := Hd.mk (T3.out.belowK hb.out)
  have U4 := Hd.mk (U3.out.below hb.out)
  have R4 := Hd.mk (R3.out.belowK hb.out)
  have V4 := Hd.mk (V3.out.below hb.out)
  have g1 := Hd.mk (f1.out.belowK hb.out)
  clear hb z0 z1 z2 x0 x1 x2 f1
  obtain ⟨z0, z1, z2⟩ := U4.out.cell
  obtain ⟨x0, x1, x2⟩ := V4.out.cell
  go_wp2_with fail
  refine (HP.out _ T4.out).mono ?_; rintro e w4 ⟨a3, c3, rfl, f3, hb⟩
  have C5 := Hd.mk (C4.out.trans (hb.out.mono C4.out.size))
  have U5 := Hd.mk (U4.out.below hb.out)
  have R5 := Hd.mk (R4.out.belowK hb.out)
  have V5 := Hd.mk (V4.out.below hb.out)
  have g2 := Hd.mk (g1.out.belowK hb.out)
  have g3 := Hd.mk (f2.out.below hb.out)
  clear hb z0 z1 z2 x0 x1 x2 f2 g1
  obtain ⟨z0, z1, z2⟩ := U5.out.cell
  obtain ⟨x0, x1, x2⟩ := V5.out.cell
  go_wp2_with fail
  refine (HRP.out _ _ _ R5.out).mono ?_; rintro e w5 ⟨a4, c4, rfl, f4, hb⟩
  have C6 := Hd.mk (C5.out.trans (hb.out.mono C5.out.size))
  have h1 := Hd.mk (g2.out.belowK hb.out)
  have h2 := Hd.mk (g3.out.below hb.out)
  have h3 := Hd.mk (f3.out.belowK hb.out)
  clear hb z0 z1 z2 x0 x1 x2 f3 g2 g3
  go_wp2_with fail
  refine (HA1.out _ _ _ _ _ h1.out h2.out).mono ?_; rintro e w6 ⟨rfl, q, hq⟩
  subst hq
  go_wp2_with fail
  refine (HA2.out _ _ _ _ _ (h3.out.belowK (below_drewN (Below.refl _ _) q)) (f4.out.below (below_drewN (Below.refl _ _) q))).mono ?_; rintro e w7 ⟨rfl, q2, hq⟩
  subst hq
  have C7 := Hd.mk (below_drewN C6.out (q + q2))
  go_wp2_with fail
  refine (awake10_any _).mono ?_; rintro e w8 ⟨rfl, hb⟩
  have C8 := Hd.mk (C7.out.trans (hb.mono C7.out.size))
  clear hb
  go_wp2_with fail
  go_ret
  exact ⟨rfl, C8.out⟩

end Go.Proofs.YtmmcnjoeepgpgaaGreat
