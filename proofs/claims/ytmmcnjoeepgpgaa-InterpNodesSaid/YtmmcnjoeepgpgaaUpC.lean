/- InterpNodes' walk. -/
import Derived.Test.YtmmcnjoeepgpgaaUnC
namespace Go.Proofs.Ytmmcnjoeepgpgaa
open Go.RowKit
set_option linter.unusedSimpArgs false
set_option linter.unusedVariables false

theorem at_nodeT {kind : Int} {X : List Int} {Y : List Nat} (hc : chkT kind X Y = 0) (ok : TOk X Y X.length) {i : Nat} (hi : i < X.length) : atT kind X Y (X.getD i 0) = (Y.getD i 0, 0) ∧ fdT kind X Y (X.getD i 0) = ((i : Int), 0) := by
  have hf : fndT X (X.getD i 0) = i := fnd_is ok hi (Int.le_refl _) (fun h => ok.up i h)
  have h0 := (up_le ok.up (show 0 ≤ i by omega) hi).1
  have h1 := (up_le ok.up (show i ≤ X.length - 1 by omega) (by omega)).1
  have hn : ¬ (X.getD i 0 < X.getD 0 0 ∨ lastT X < X.getD i 0) := by unfold lastT; omega
  constructor
  · unfold atT; rw [if_pos hc, if_neg hn, hf, if_pos rfl]
  · rw [fd_ok hc hn, hf]
theorem at_outT {kind : Int} {X : List Int} {Y : List Nat} (hc : chkT kind X Y = 0) {x : Int} (hx : x < X.getD 0 0 ∨ lastT X < x) : atT kind X Y x = (0, 51) := by
  unfold atT; rw [if_pos hc, if_pos hx]

set_option maxHeartbeats 12800000 in
set_option maxRecDepth 100000 in
theorem interpNodes_any (kind : Int) (ax : Option Addr) (X : List Int) (cx : Nat) (ay : Option Addr) (Y : List Nat) (cy : Nat) (w : World) (_hk : -9223372036854775808 ≤ kind ∧ kind ≤ 9223372036854775807) (ht : Tbl w ax X ay Y) (_hrx : Room ax X.length cx) (hry : Room ay Y.length cy) :
    Calls Try.prog 4 #[.agg #[.int .i64 kind, .slice ax X.length cx, .slice ay Y.length cy]] w fun e w' => e = .returned (.bool true) ∧ Below w.heap.size w w' := by
  have HC := Hd.mk fun w1 h => check_any kind ax X cx ay Y cy w1 h
  have HA := Hd.mk fun x w1 h => at_any10 kind ax X cx ay Y cy x w1 h hry
  have HF := Hd.mk fun x w1 h => findX_any kind ax X cx ay Y cy x w1 h
  obtain ⟨W, hW, b1, b2⟩ := box_t w kind ax X.length cx ay Y.length cy
  obtain ⟨y0, y1, y2⟩ := b1.cell
  have B1 := Hd.mk b1
  have B2 := Hd.mk b2
  have T := Hd.mk (ht.belowK b2)
  by_cases hc : chkT kind X Y = 0
  rotate_left
  · have d1 : (chkT kind X Y != 0) = true := by rw [bne_iff_ne]; exact hc
    generalize chkT kind X Y = E at *
    generalize X.length = n at *
    generalize Y.length = m at *
    clear b1 b2 ht hc
    go_enter Try.func4, Try.ntmps4
    go_upto_region 1 with fail
    clear hW
    go_wp2_with fail
    refine (HC.out _ T.out).mono ?_; rintro e w1 ⟨rfl, hb⟩
    have C1 := Hd.mk (B2.out.trans (hb.mono B2.out.size))
    clear hb
    go_wp2_with fail
    refine (awake10_any _).mono ?_; rintro e w3 ⟨rfl, hb⟩
    have C3 := Hd.mk (C1.out.trans (hb.mono C1.out.size))
    clear hb
    go_wp2_with fail
    go_ret
    exact ⟨rfl, C3.out⟩
  obtain ⟨ok, kl, kh, k4⟩ := chk_ok hc ht.fy.wf
  have lyx := ok.ly
  have nmax := ok.max
  have npos := ok.pos
  rw [hc] at HC
  rw [lyx] at HC HA HF B1 b1 y2 hW ⊢
  have d256 : decide ((X.length : Int) > 256) = false := by simp; omega
  have dneq : ((X.length : Int) != X.length) = false := by simp
  have d0 : ((X.length : Int) == 0) = false := by rw [beq_eq_false_iff_ne]; omega
  have HAt : Hd (∀ i, i < X.length → ∀ w1, Tbl w1 ax X ay Y → Calls Try.prog 14 #[.agg #[.int .i64 kind, .slice ax X.length cx, .slice ay X.length cy], .int .i64 (X.getD i 0)] w1 fun e w' => e = .returned (.tuple #[.float .f64 (Y.getD i 0), .int .i64 0]) ∧ Below w1.heap.size w1 w') := ⟨fun i hi w1 h => by
    have := HA.out (X.getD i 0) w1 h
    unfold AtRet at this
    rw [(at_nodeT hc ok hi).1] at this
    exact this⟩
  have HFi : Hd (∀ i, i < X.length → ∀ w1, Tbl w1 ax X ay Y → Calls Try.prog 12 #[.agg #[.int .i64 kind, .slice ax X.length cx, .slice ay X.length cy], .int .i64 (X.getD i 0)] w1 fun e w' => e = .returned (.tuple #[.int .i64 i, .int .i64 0]) ∧ Below w1.heap.size w1 w') := ⟨fun i hi w1 h => by
    have := HF.out (X.getD i 0) w1 h
    rw [(at_nodeT hc ok hi).2] at this
    exact this⟩
  have HLo : Hd (∀ w1, Tbl w1 ax X ay Y → Calls Try.prog 14 #[.agg #[.int .i64 kind, .slice ax X.length cx, .slice ay X.length cy], .int .i64 (X.getD 0 0 - 1)] w1 fun e w' => e = .returned (.tuple #[.float .f64 0, .int .i64 51]) ∧ Below w1.heap.size w1 w') := ⟨fun w1 h => by
    have := HA.out (X.getD 0 0 - 1) w1 h
    unfold AtRet at this
    rw [at_outT hc (.inl (by omega))] at this
    exact this⟩
  have HHi : Hd (∀ w1, Tbl w1 ax X ay Y → Calls Try.prog 14 #[.agg #[.int .i64 kind, .slice ax X.length cx, .slice ay X.length cy], .int .i64 (X.getD (X.length - 1) 0 + 1)] w1 fun e w' => e = .returned (.tuple #[.float .f64 0, .int .i64 51]) ∧ Below w1.heap.size w1 w') := ⟨fun w1 h => by
    have := HA.out (X.getD (X.length - 1) 0 + 1) w1 h
    unfold AtRet at this
    rw [at_outT hc (.inr (by unfold lastT; omega))] at this
    exact this⟩
  have HX0 := Hd.mk (And.intro (ok.lo 0 (by omega)) (ok.hi 0 (by omega)))
  have HXl := Hd.mk (And.intro (ok.lo (X.length - 1) (by omega)) (ok.hi (X.length - 1) (by omega)))
  obtain ⟨n, hn⟩ : ∃ n, X.length = n := ⟨_, rfl⟩
  have HN := Hd.mk hn
  have HY := Hd.mk (lyx.trans hn)
  rw [hn] at HC B1 b1 y1 y2 hW d256 dneq d0 HAt HFi HLo HHi HXl nmax npos ⊢
  clear b1 b2 ht hc ok k4 HA HF lyx hn
  have n3 : (n : Int) ≤ 256 := by omega
  have n1 : (1 : Int) ≤ n := by omega
  go_enter Try.func4, Try.ntmps4
  go_upto_region 1 with fail
  clear hW
  go_wp2_with fail
  refine (HC.out _ T.out).mono ?_; rintro e w1 ⟨rfl, hb⟩
  have C1 := Hd.mk (B2.out.trans (hb.mono B2.out.size))
  have T1 := Hd.mk (T.out.belowK hb)
  have U1 := Hd.mk (B1.out.below hb)
  obtain ⟨z0, z1, z2⟩ := U1.out.cell
  clear hb y0 y1 y2 T B1 B2
  go_wp2_with fail
  go_loopw [3] (fun iv wr => ∃ (k : Nat), k ≤ n ∧ iv = .int .i64 k ∧ Hd (Tbl wr ax X ay Y) ∧ Hd (BoxT wr w.heap.size kind ax n cx ay n cy) ∧ Hd (Below w.heap.size w wr)) (fun iv _ => n - (intOf iv).toNat)
  case atStart => exact ⟨0, by omega, rfl, T1, U1, C1⟩
  case round =>
    clear z0 z1 z2 T1 U1 C1
    obtain ⟨k, hk, rfl, HT, HU, HB⟩ := hrel
    obtain ⟨z0, z1, z2⟩ := HU.out.cell
    by_cases hlt : k < n
    · have hlt' : (k : Int) < n := by omega
      obtain ⟨bx, ox, hax, c1⟩ := HT.out.ix.at k (by rw [HN.out]; exact hlt)
      obtain ⟨by_, oy, hay, c2⟩ := HT.out.fy.at k (by rw [HY.out]; exact hlt)
      subst hax
      subst hay
      have HAk := Hd.mk (HAt.out k hlt)
      have HFk := Hd.mk (HFi.out k hlt)
      generalize X.getD k 0 = x at *
      obtain ⟨y, hy⟩ : ∃ y, Y.getD k 0 = y := ⟨_, rfl⟩
      obtain ⟨y', hy'⟩ : ∃ y', y' = y := ⟨_, rfl⟩
      obtain ⟨k', hk'⟩ : ∃ k' : Int, k' = k := ⟨_, rfl⟩
      rw [hy] at c2
      rw [hy, ← hy'] at HAk
      rw [← hk'] at HFk
      have e1 : (k' != (k : Int)) = false := by rw [hk']; simp
      have e2 : ((y' : Int) != (y : Int)) = false := by rw [hy']; simp
      have E1 := Hd.mk c1
      have E2 := Hd.mk c2
      have k0 : (0 : Int) ≤ k := by omega
      clear hy hy' hk' hlt
      go_wp2_with fail
      have TD : Hd (Tbl wr.drew (some ⟨bx, ox, none⟩) X (some ⟨by_, oy, none⟩) Y) := ⟨⟨HT.out.ix.heap rfl, HT.out.fy.heap rfl⟩⟩
      go_region_held3 (fun w' => w'.cell? ⟨w.heap.size, 0, none⟩ = some (.int .i64 kind) ∧ w'.cell? ⟨w.heap.size, 1, none⟩ = some (.slice (some ⟨bx, ox, none⟩) n cx) ∧ w'.cell? ⟨w.heap.size, 2, none⟩ = some (.slice (some ⟨by_, oy, none⟩) n cy) ∧ w'.cell? ⟨bx, ox + k, none⟩ = some (.int .i64 x)) (first | with_reducible exact ⟨z0, z1, z2, c1⟩ | with_reducible exact ⟨d0, d1, d2, d3⟩ | (refine ⟨?_, ?_, ?_, ?_⟩ <;> go_simp)) (
        first
        | (
        go_at_call 14
        refine (HAk.out _ TD.out).mono ?_
        rintro en w2 ⟨rfl, hb⟩
        have T2 := Hd.mk (TD.out.belowK hb)
        have U2 := Hd.mk ((show BoxT wr.drew _ _ _ _ _ _ _ _ from HU.out).below hb)
        have C2 := Hd.mk (HB.out.drew.trans (hb.mono HB.out.size))
        have d3 := cell_of_below hb (Nat.le_refl _) (show wr.drew.cell? ⟨bx, ox + k, none⟩ = _ from c1)
        have g2 := cell_of_below hb (Nat.le_refl _) (show wr.drew.cell? ⟨by_, oy + k, none⟩ = _ from c2)
        have d0 := U2.out.cell.1
        have d1 := U2.out.cell.2.1
        have d2 := U2.out.cell.2.2
        clear hb))
      clear z0 z1 z2 c1 c2 TD
      go_wp2_with fail
      have TD2 : Hd (Tbl w2.drew (some ⟨bx, ox, none⟩) X (some ⟨by_, oy, none⟩) Y) := ⟨⟨T2.out.ix.heap rfl, T2.out.fy.heap rfl⟩⟩
      go_region_held3 (fun w' => w'.cell? ⟨w.heap.size, 0, none⟩ = some (.int .i64 kind) ∧ w'.cell? ⟨w.heap.size, 1, none⟩ = some (.slice (some ⟨bx, ox, none⟩) n cx) ∧ w'.cell? ⟨w.heap.size, 2, none⟩ = some (.slice (some ⟨by_, oy, none⟩) n cy) ∧ w'.cell? ⟨bx, ox + k, none⟩ = some (.int .i64 x)) (first | with_reducible exact ⟨d0, d1, d2, d3⟩ | with_reducible exact ⟨z0, z1, z2, z3⟩ | (refine ⟨?_, ?_, ?_, ?_⟩ <;> go_simp)) (
        first
        | (
        go_at_call 12
        refine (HFk.out _ TD2.out).mono ?_
        rintro en w3 ⟨rfl, hb⟩
        have T3 := Hd.mk (TD2.out.belowK hb)
        have U3 := Hd.mk ((show BoxT w2.drew _ _ _ _ _ _ _ _ from U2.out).below hb)
        have C3 := Hd.mk (C2.out.drew.trans (hb.mono C2.out.size))
        have h2 := cell_of_below hb (Nat.le_refl _) (show w2.drew.cell? ⟨by_, oy + k, none⟩ = _ from g2)
        have z3 := cell_of_below hb (Nat.le_refl _) (show w2.drew.cell? ⟨bx, ox + k, none⟩ = _ from d3)
        have z0 := U3.out.cell.1
        have z1 := U3.out.cell.2.1
        have z2 := U3.out.cell.2.2
        clear hb))
      clear d0 d1 d2 d3 g2 TD2 T2 U2
      go_wp2_with fail
      go_quiet ((go_at_call 18; exact Calls.quiet_of_same ((apiBits_any _ _).mono fun _ _ h => ⟨h.1, h.2.symm⟩)))
      go_wp2_with fail
      exact ⟨⟨k + 1, by omega, by go_num, ⟨⟨T3.out.ix.heap rfl, T3.out.fy.heap rfl⟩⟩, ⟨U3.out⟩, ⟨below_drewN C3.out _⟩⟩, by simp [intOf]; omega⟩
    · obtain rfl : k = n := by omega
      have hge : ¬ (k : Int) < k := by omega
      obtain ⟨bx, ox, hax, c1⟩ := HT.out.ix.at 0 (by rw [HN.out]; omega)
      obtain ⟨bx', ox', hax', c2⟩ := HT.out.ix.at (k - 1) (by rw [HN.out]; omega)
      rw [hax] at hax'
      cases hax'
      subst hax
      rw [Nat.add_zero] at c1
      generalize X.getD 0 0 = xa at *
      generalize X.getD (k - 1) 0 = xl at *
      obtain ⟨xa0, xa1⟩ := HX0.out
      obtain ⟨xl0, xl1⟩ := HXl.out
      have wr1 : IntKind.i64.wrap (xa - 1) = xa - 1 := IntWalk.i64_in _ (by omega)
      have wr2 : IntKind.i64.wrap (xl + 1) = xl + 1 := IntWalk.i64_in _ (by omega)
      have wr3 : IntKind.i64.wrap ((k : Int) - 1) = (k : Int) - 1 := IntWalk.i64_in _ (by omega)
      have wr4 : ((k : Int) - 1).toNat = k - 1 := by omega
      have p1 : (0 : Int) ≤ (k : Int) - 1 := by omega
      have p2 : (k : Int) - 1 < k := by omega
      have p3 : (0 : Int) < k := by omega
      have p4 : 0 < k := by omega
      clear hlt hk
      go_wp2_with fail
      have TD : Hd (Tbl wr.drew (some ⟨bx, ox, none⟩) X ay Y) := ⟨⟨HT.out.ix.heap rfl, HT.out.fy.heap rfl⟩⟩
      go_region_held3 (fun w' => w'.cell? ⟨w.heap.size, 0, none⟩ = some (.int .i64 kind) ∧ w'.cell? ⟨w.heap.size, 1, none⟩ = some (.slice (some ⟨bx, ox, none⟩) k cx) ∧ w'.cell? ⟨w.heap.size, 2, none⟩ = some (.slice ay k cy) ∧ w'.cell? ⟨bx, ox, none⟩ = some (.int .i64 xa)) (first | with_reducible exact ⟨z0, z1, z2, c1⟩ | with_reducible exact ⟨d0, d1, d2, d3⟩ | (refine ⟨?_, ?_, ?_, ?_⟩ <;> go_simp)) (
        first
        | (
        go_at_call 14
        refine (HLo.out _ TD.out).mono ?_
        rintro en w2 ⟨rfl, hb⟩
        have T2 := Hd.mk (TD.out.belowK hb)
        have U2 := Hd.mk ((show BoxT wr.drew _ _ _ _ _ _ _ _ from HU.out).below hb)
        have C2 := Hd.mk (HB.out.drew.trans (hb.mono HB.out.size))
        have d3 := cell_of_below hb (Nat.le_refl _) (show wr.drew.cell? ⟨bx, ox, none⟩ = _ from c1)
        have g1 := cell_of_below hb (Nat.le_refl _) (show wr.drew.cell? ⟨bx, ox + (k - 1), none⟩ = _ from c2)
        have d0 := U2.out.cell.1
        have d1 := U2.out.cell.2.1
        have d2 := U2.out.cell.2.2
        clear hb))
      clear z0 z1 z2 c1 c2 d3 TD
      go_wp2_with fail
      have TD2 : Hd (Tbl w2.drew (some ⟨bx, ox, none⟩) X ay Y) := ⟨⟨T2.out.ix.heap rfl, T2.out.fy.heap rfl⟩⟩
      go_region_held3 (fun w' => w'.cell? ⟨w.heap.size, 0, none⟩ = some (.int .i64 kind) ∧ w'.cell? ⟨w.heap.size, 1, none⟩ = some (.slice (some ⟨bx, ox, none⟩) k cx) ∧ w'.cell? ⟨w.heap.size, 2, none⟩ = some (.slice ay k cy) ∧ w'.cell? ⟨bx, ox + (k - 1), none⟩ = some (.int .i64 xl)) (first | with_reducible exact ⟨d0, d1, d2, g1⟩ | with_reducible exact ⟨z0, z1, z2, z3⟩ | (refine ⟨?_, ?_, ?_, ?_⟩ <;> go_simp)) (
        first
        | (
        go_at_call 14
        refine (HHi.out _ TD2.out).mono ?_
        rintro en w3 ⟨rfl, hb⟩
        have U3 := Hd.mk ((show BoxT w2.drew _ _ _ _ _ _ _ _ from U2.out).below hb)
        have C3 := Hd.mk (C2.out.drew.trans (hb.mono C2.out.size))
        have z3 := cell_of_below hb (Nat.le_refl _) (show w2.drew.cell? ⟨bx, ox + (k - 1), none⟩ = _ from g1)
        have z0 := U3.out.cell.1
        have z1 := U3.out.cell.2.1
        have z2 := U3.out.cell.2.2
        clear hb))
      clear d0 d1 d2 g1 TD2 T2 U2
      go_wp2_with fail
      refine (awake10_any _).mono ?_; rintro e w4 ⟨rfl, hb⟩
      have C4 := Hd.mk (C3.out.trans (hb.mono C3.out.size))
      clear hb
      go_wp2_with fail
      go_ret
      exact ⟨rfl, C4.out⟩

end Go.Proofs.Ytmmcnjoeepgpgaa
