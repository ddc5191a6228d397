/- Put together out of several texts: Yp. -/
import Derived.Test.YteikihidblcljaaGreatM16

/- The walk of the reference's way (tenorref23), all of it. -/
namespace Go.Proofs.YteikihidblcljaaGreat
open Go.RowKit
set_option linter.unusedSimpArgs false
set_option linter.unusedVariables false

theorem of_rate {x : Nat} (h : Rate x) (w : World) : Calls Tryz.prog 94 #[.int .u64 (x : Nat)] w (NRet false (mnt x) (exq x) w) := by
  have := of_any x h.wf w
  rw [h.pos, if_neg h.mnt.1] at this
  exact this
theorem nd_small {x n : Nat} (h : x < 2 ^ (53 * n + 1)) (hn : n ≤ 9) : nd x ≤ 100 := by
  obtain ⟨m, hm⟩ : ∃ m, m = 100 := ⟨_, rfl⟩
  rw [← hm]
  refine nd_le ?_
  rw [BB_pow]
  exact Nat.lt_of_lt_of_le h (Nat.pow_le_pow_right (by decide) (by omega))
theorem nd_rate {x : Nat} (h : Rate x) : nd (mnt x) ≤ 100 := nd_small (n := 1) (Nat.lt_of_lt_of_le h.mnt.2 (by decide)) (by decide)
theorem times_pos (a : Option Addr) (d c : Nat) (e : Int) (a' : Option Addr) (d' c' : Nat) (e' : Int) (w : World) (h : Dgs w a d) (h' : Dgs w a' d') (h0 : d ≠ 0) (h0' : d' ≠ 0) (hs : nd d ≤ 100) (hs' : nd d' ≤ 100) (he : -100000 ≤ e ∧ e ≤ 100000) (he' : -100000 ≤ e' ∧ e' ≤ 100000) :
    Calls Tryz.prog 93 #[.agg #[.bool false, .slice a (nd d) c, .int .i64 e], .agg #[.bool false, .slice a' (nd d') c', .int .i64 e']] w (NRet false (d * d') (e + e') w) := by
  have := times_any false a d c e false a' d' c' e' w h h' (by omega) (by omega) he he'
  rw [if_neg (Nat.mul_ne_zero h0 h0')] at this
  exact this

theorem set3_otherN (w : World) (v0 v1 v2 : Value) {b r : Nat} (hne : b ≠ r) (o : Nat) :
    (((w.setCell ⟨r, 0, none⟩ v0).setCell ⟨r, 1, none⟩ v1).setCell ⟨r, 2, none⟩ v2).cell? ⟨b, o, none⟩ = w.cell? ⟨b, o, none⟩ := by
  refine World.cell?_of_block (w := w) (a := ⟨b, o, none⟩) ?_
  rw [Below.heap_setCell _ _ _ _ hne, Below.heap_setCell _ _ _ _ hne, Below.heap_setCell _ _ _ _ hne]

set_option maxHeartbeats 12800000 in
set_option maxRecDepth 100000 in
theorem rway_any (L : List Pr) (b : Int) (tr : Tree L) (ps : Pos L) (au : Option Addr) (cu : Nat) : ∀ (n : Nat) (f a : Int) (w : World), Dep L f a n → PrsU w au L →
    Calls Tryz.prog 85 #[.agg #[.slice au L.length cu], .int .i64 a, .int .i64 b, .int .i64 f] w (RWayRet L f a b w)
  | 0, f, a, w, hd, _ => (Dep.none hd).elim
  | n + 1, f, a, w, hd, hp => by
    by_cases hab : a = b
    · subst hab; exact rway_same L f a w _
    have IH := Hd.mk (rway_any L b tr ps au cu n)
    have HP := Hd.mk hp
    have HD := Hd.mk hd
    have HA := Hd.mk hab
    have d0 : (a == b) = false := by rw [beq_eq_false_iff_ne]; exact hab
    have hl := hp.len
    obtain ⟨N, hN⟩ : ∃ N, L.length = N := ⟨_, rfl⟩
    rw [hN] at hl IH ⊢
    have HN := Hd.mk hN
    obtain ⟨W, hW, t1, n1, n2, b1, sz⟩ := rway_boxes w (.slice au N cu)
    have T0 := Hd.mk t1
    have N1 := Hd.mk n1
    have N2 := Hd.mk n2
    have B1 := Hd.mk b1
    have HW := Hd.mk hW
    have SZ := Hd.mk sz
    clear hp hd hab hN hW t1 n1 n2 b1 sz
    go_enter Tryz.func85, Tryz.ntmps85
    go_wp2_with fail
    (try rw [HW.out])
    have BW : Hd (Below (w.heap.size + 3) W W) := ⟨Below.refl _ _⟩
    go_loopw [11] (fun iv wr => ∃ k : Nat, k ≤ N ∧ iv = .int .i64 k ∧ Hd (NoW L f a b k) ∧ Hd (Below (w.heap.size + 3) W wr)) (fun iv _ => N - (intOf iv).toNat)
    case atStart => exact ⟨0, Nat.zero_le _, rfl, ⟨NoW.zero _ _ _ _⟩, BW⟩
    case round =>
      clear BW
      obtain ⟨k, hk, rfl, HNo, HB⟩ := hrel
      have HT := Hd.mk (T0.out.belowB HB.out (by omega))
      have HM1 := Hd.mk (N1.out.belowB HB.out (by omega))
      have HM2 := Hd.mk (N2.out.belowB HB.out (by omega))
      have HBw := Hd.mk (B1.out.trans (HB.out.mono (by omega)))
      have hsz : w.heap.size + 3 ≤ wr.heap.size := by have := HB.out.size; have := SZ.out; omega
      have t0 := HT.out.cell
      by_cases hlt : k < N
      · have hlt' : (k : Int) < N := by omega
        have k0 : (0 : Int) ≤ k := by omega
        obtain ⟨bb, oo, rfl, c1, c2, c3⟩ := (HP.out.below HBw.out).cell k (by rw [HN.out]; exact hlt)
        have hm : Hd (L.getD k pr0 ∈ L) := ⟨getD_memP (by rw [HN.out]; exact hlt)⟩
        generalize hpk : L.getD k pr0 = p at *
        obtain ⟨pa, pb, px⟩ := p
        dsimp only at c1 c2 c3
        have HRx : Hd (Rate px) := ⟨ps _ hm.out⟩
        have hne : pa ≠ pb := (tr.cy _ hm.out).2.2
        obtain ⟨V1, hV1, v1, q0, q1, q2⟩ := box_pairU wr pa pb px
        have HV1 := Hd.mk hV1
        have X1 := Hd.mk (HB.out.trans (v1.mono hsz))
        have s1 : w.heap.size + 3 ≤ V1.heap.size := Nat.le_trans hsz v1.size
        have hbx : wr.heap.size < V1.heap.size := World.block_lt_of_cell? _ _ q0
        have HOf := Hd.mk fun w => of_rate HRx.out w
        have HNd : Hd (nd (mnt px) ≤ 100) := ⟨nd_rate HRx.out⟩
        clear v1 hV1 hlt
        -- the box with the pair, the rate's real
        have HSkip : Hd ((∀ j, sr ⟨pa, pb, px⟩ j = a → ds ⟨pa, pb, px⟩ j ≠ f → False) → NoW L f a b (k + 1)) := ⟨fun hs => HNo.out.succ fun j l hw => by
          rw [hpk] at hw
          exact hs j hw.2.1 hw.2.2.1⟩
        by_cases h1 : pa = a
        · have e1 : (pa == a) = true := by rw [beq_iff_eq]; exact h1
          have e2 : (pb == a) = false := by rw [beq_eq_false_iff_ne]; omega
          by_cases h2 : pb = f
          · have e3 : (pb != f) = false := by rw [bne_eq_false_iff_eq]; exact h2
            have HN3 := Hd.mk (HSkip.out fun j => by cases j <;> simp [sr, ds] <;> omega)
            clear h1 h2 hne HSkip
            clear IH HD HA HM1 HM2 N1 N2 SZ HW HNo HP HN HNd hm HRx B1 HT HBw
            go_upto_region 7 with fail
            rw [HV1.out]
            go_wp2_with fail
            refine (HOf.out _).mono ?_; rintro e w2 ⟨a1, d1, rfl, hd, hb⟩
            have X2 := Hd.mk (X1.out.trans (hb.mono s1))
            have p0 := cell_trP hb q0
            have p1 := cell_trP hb q1
            have s2 := Nat.le_trans s1 hb.size
            have hbx2 : wr.heap.size < w2.heap.size := World.block_lt_of_cell? _ _ p0
            have t2 := (T0.out.belowB X2.out (by omega)).cell
            obtain ⟨V2, hV2, _, v2⟩ := nbox1 w2 false a1 (nd (mnt px)) d1 (exq px)
            have HV2 := Hd.mk hV2
            have X3 := Hd.mk (X2.out.trans (v2.mono s2))
            have y0 := cell_trP v2 p0
            have y1 := cell_trP v2 p1
            clear hd hb hV2 v2 q0 q1 q2 HOf HV1 X1 X2 HB T0
            generalize nd (mnt px) = nx at *
            generalize exq px = ex at *
            go_upto_region 8 with fail
            rw [HV2.out]
            clear p0 p1 t2 HV2 t0 c1 c2 c3
            go_wp2_with fail
            exact ⟨⟨k + 1, by omega, by go_num, HN3, X3⟩, by simp [intOf]; omega⟩
          · have e3 : (pb != f) = true := by rw [bne_iff_ne]; exact h2
            have HI : Hd (∀ w2, PrsU w2 (some ⟨bb, oo, none⟩) L → Calls Tryz.prog 85 #[.agg #[.slice (some ⟨bb, oo, none⟩) N cu], .int .i64 pb, .int .i64 b, .int .i64 a] w2 (RWayRet L a pb b w2)) := ⟨fun w2 hB => IH.out a pb w2 (HD.out.next (k := false) hm.out h1 h2) hB⟩
            have HWk : Hd (∀ l, Wk L a pb b l → Wk L f a b ((⟨pa, pb, px⟩, false) :: l)) := ⟨fun l hw => ⟨hm.out, h1, h2, hw⟩⟩
            have HNn : Hd ((∀ l, ¬ Wk L a pb b l) → NoW L f a b (k + 1)) := ⟨fun hn => HNo.out.succ fun j l hw => by
              rw [hpk] at hw
              have hk2 : j = false := by
                have := hw.2.1
                cases j
                · first | rfl | exact absurd this (by show pa ≠ a; omega)
                · first | rfl | exact absurd this (by show pb ≠ a; omega)
              subst hk2
              exact hn l hw.2.2.2⟩
            clear h1 h2 hne HSkip IH HD HNo HM1 HM2 SZ HW HA hm HT HBw
            go_upto_region 7 with fail
            rw [HV1.out]
            go_wp2_with fail
            refine (HOf.out _).mono ?_; rintro e w2 ⟨a1, d1, rfl, hd, hb⟩
            have X2 := Hd.mk (X1.out.trans (hb.mono s1))
            have p0 := cell_trP hb q0
            have p1 := cell_trP hb q1
            have p2 := cell_trP hb q2
            have s2 := Nat.le_trans s1 hb.size
            have hbx2 : wr.heap.size < w2.heap.size := World.block_lt_of_cell? _ _ p0
            have t2 := (T0.out.belowB X2.out (by omega)).cell
            have D2 := Hd.mk hd
            obtain ⟨V2, hV2, nb, v2⟩ := nbox1 w2 false a1 (nd (mnt px)) d1 (exq px)
            have HV2 := Hd.mk hV2
            have X3 := Hd.mk (X2.out.trans (v2.mono s2))
            have NB := Hd.mk nb
            have D3 := Hd.mk (D2.out.below v2)
            have y0 := cell_trP v2 p0
            have y1 := cell_trP v2 p1
            have s3 := Nat.le_trans s2 v2.size
            have hlb : w2.heap.size < V2.heap.size := NB.out.lt
            have t3 := (T0.out.belowB X3.out (by omega)).cell
            have HP3 := Hd.mk (HP.out.below (B1.out.trans (X3.out.mono (by omega))))
            clear hd hb hV2 nb v2 q0 q1 q2
            generalize hnx : nd (mnt px) = nx at *
            have HNX := Hd.mk hnx
            clear hnx
            generalize hex : exq px = ex at *
            have HEX := Hd.mk hex
            clear hex
            go_upto_region 8 with fail
            rw [HV2.out]
            clear p0 p1 p2 t2 HV2 HV1 HOf t0 c1 c2 c3
            go_wp2_with fail
            refine (HI.out _ HP3.out).mono ?_
            rintro e w4 ⟨⟨l, g1, k1, g2, k2, hw, rfl, hg1, hg2⟩ | ⟨hn, rfl⟩, hb⟩
            rotate_left
            · have HN3 := Hd.mk (HNn.out hn)
              have X4 := Hd.mk (X3.out.trans (hb.mono s3))
              have o0 := cell_trP hb y0
              have o1 := cell_trP hb y1
              have s4 := Nat.le_trans s3 hb.size
              obtain ⟨V4, hV4, _, _, v4⟩ := nbox2 w4 false none 0 0 0 false none 0 0 0
              have X5 := Hd.mk (X4.out.trans (v4.mono s4))
              have o2 := cell_trP v4 o0
              have o3 := cell_trP v4 o1
              have HV4 := Hd.mk hV4
              clear hn hb hV4 v4 y0 y1
              go_upto_region 10 with fail
              rw [HV4.out]
              clear o0 o1
              go_wp2_with fail
              exact ⟨⟨k + 1, by omega, by go_num, HN3, X5⟩, by simp [intOf]; omega⟩
            have HWl := Hd.mk (HWk.out l hw)
            have HMem := Hd.mk hw.mem
            have HLn : Hd (l.length ≤ 8) := ⟨hw.short tr⟩
            have X4 := Hd.mk (X3.out.trans (hb.mono s3))
            have s4 := Nat.le_trans s3 hb.size
            have NB4 := Hd.mk (NB.out.below hb)
            have D4 := Hd.mk (D3.out.below hb)
            obtain ⟨V4, hV4, na, nb', v4⟩ := nbox2 w4 false g1 (nd (wM false l)) k1 (wE false l) false g2 (nd (wM true l)) k2 (wE true l)
            have NA := Hd.mk na
            have NBB := Hd.mk nb'
            have X5 := Hd.mk (X4.out.trans (v4.mono s4))
            have NB5 := Hd.mk (NB4.out.below v4)
            have D5 := Hd.mk (D4.out.below v4)
            have G1 := Hd.mk (hg1.below v4)
            have G2 := Hd.mk (hg2.below v4)
            have HV4 := Hd.mk hV4
            have s5 := Nat.le_trans s4 v4.size
            have R1 := Hd.mk (N1.out.belowB X5.out (by omega))
            have R2 := Hd.mk (N2.out.belowB X5.out (by omega))
            have B5 := Hd.mk (B1.out.trans (X5.out.mono (by omega)))
            have MB := Hd.mk fun k => wM_bd ps k l HMem.out
            have EB := Hd.mk fun k => wE_bd ps k l HMem.out
            have HTm : Hd (∀ w', Dgs w' g1 (wM false l) → Dgs w' a1 (mnt px) → Calls Tryz.prog 93 #[.agg #[.bool false, .slice g1 (nd (wM false l)) k1, .int .i64 (wE false l)], .agg #[.bool false, .slice a1 nx d1, .int .i64 ex]] w' (NRet false (wM false l * mnt px) (wE false l + ex) w')) := ⟨fun w' h h' => by
              have hb1 := MB.out false
              have hb2 := EB.out false
              have hln := HLn.out
              have he := HRx.out.exq
              rw [← HNX.out, ← HEX.out]
              exact times_pos g1 _ k1 _ a1 _ d1 _ w' h h' hb1.1 HRx.out.mnt.1 (nd_small hb1.2 (by omega)) (nd_rate HRx.out) (by omega) (by omega)⟩
            have HZM : Hd (wM false ((⟨pa, pb, px⟩, false) :: l) = wM false l * mnt px ∧ wE false ((⟨pa, pb, px⟩, false) :: l) = wE false l + ex ∧ wM true ((⟨pa, pb, px⟩, false) :: l) = wM true l ∧ wE true ((⟨pa, pb, px⟩, false) :: l) = wE true l) := ⟨by rw [← HEX.out]; exact ⟨rfl, rfl, rfl, rfl⟩⟩
            clear hw hb hV4 na nb' v4 hg1 hg2 y0 y1 MB EB HMem hpk
            generalize hzm : wM false l * mnt px = Z at *
            generalize hze : wE false l + ex = E at *
            generalize (⟨pa, pb, px⟩, false) :: l = l2 at *
            generalize wM false l = M1 at *
            generalize wM true l = M2 at *
            generalize wE false l = E1 at *
            generalize wE true l = E2 at *
            generalize mnt px = Mx at *
            have s5' : w.heap.size + 3 ≤ V4.heap.size := s5
            have hne4 : w4.heap.size ≠ w.heap.size + 1 := by omega
            have hne4' : w4.heap.size + 1 ≠ w.heap.size + 1 := by omega
            have hne2 : w2.heap.size ≠ w.heap.size + 1 := by omega
            have hnf4 : w4.heap.size ≠ w.heap.size + 1 + 1 := by omega
            have hnf4' : w4.heap.size + 1 ≠ w.heap.size + 1 + 1 := by omega
            have hnf2 : w2.heap.size ≠ w.heap.size + 1 + 1 := by omega
            clear s1 s2 s3 s4 hzm hze
            generalize hm1 : nd M1 = m1 at *
            generalize hm2 : nd M2 = m2 at *
            have HM1' := Hd.mk hm1
            have HM2' := Hd.mk hm2
            clear hm1 hm2
            go_upto_region 10 with fail
            rw [HV4.out]
            go_wp2_with fail
            have c0 : V4.drew.cell? ⟨w4.heap.size, 0, none⟩ = _ := NA.out.cell.1
            have c1' : V4.drew.cell? ⟨w4.heap.size, 1, none⟩ = _ := NA.out.cell.2.1
            have c2' : V4.drew.cell? ⟨w4.heap.size, 2, none⟩ = _ := NA.out.cell.2.2
            have c3' : V4.drew.cell? ⟨w2.heap.size, 0, none⟩ = _ := NB5.out.cell.1
            have c4 : V4.drew.cell? ⟨w2.heap.size, 1, none⟩ = _ := NB5.out.cell.2.1
            have c5 : V4.drew.cell? ⟨w2.heap.size, 2, none⟩ = _ := NB5.out.cell.2.2
            have c6 : V4.drew.cell? ⟨w4.heap.size + 1, 0, none⟩ = _ := NBB.out.cell.1
            have c7 : V4.drew.cell? ⟨w4.heap.size + 1, 1, none⟩ = _ := NBB.out.cell.2.1
            have c8 : V4.drew.cell? ⟨w4.heap.size + 1, 2, none⟩ = _ := NBB.out.cell.2.2
            have DX : Hd (Dgs V4.drew a1 Mx) := ⟨D5.out.keep fun _ _ _ h => h⟩
            have DG1 : Hd (Dgs V4.drew g1 M1) := ⟨G1.out.keep fun _ _ _ h => h⟩
            have DG2 : Hd (Dgs V4.drew g2 M2) := ⟨G2.out.keep fun _ _ _ h => h⟩
            have RD1 := Hd.mk R1.out.drew
            have RD2 := Hd.mk R2.out.drew
            have BD := Hd.mk B5.out.drew
            clear D2 D3 D4 D5 G1 G2 NA NBB NB5 NB4 NB R1 R2 B5 HI HWk HNn HRx HNd HP3 HV4 T0 N1 N2 X1 X2 X3 X4 X5 HB HP B1 t3
            go_region_held3 (fun w' => w'.cell? ⟨w4.heap.size, 0, none⟩ = some (.bool false) ∧ w'.cell? ⟨w4.heap.size, 1, none⟩ = some (.slice g1 m1 k1) ∧ w'.cell? ⟨w4.heap.size, 2, none⟩ = some (.int .i64 E1) ∧ w'.cell? ⟨w2.heap.size, 0, none⟩ = some (.bool false) ∧ w'.cell? ⟨w2.heap.size, 1, none⟩ = some (.slice a1 nx d1) ∧ w'.cell? ⟨w2.heap.size, 2, none⟩ = some (.int .i64 ex) ∧ w'.cell? ⟨w4.heap.size + 1, 0, none⟩ = some (.bool false) ∧ w'.cell? ⟨w4.heap.size + 1, 1, none⟩ = some (.slice g2 m2 k2) ∧ w'.cell? ⟨w4.heap.size + 1, 2, none⟩ = some (.int .i64 E2)) (first | with_reducible exact ⟨c0, c1', c2', c3', c4, c5, c6, c7, c8⟩ | with_reducible exact ⟨d0', d1', d2', d3', d4', d5', d6', d7', d8'⟩ | with_reducible exact ⟨x0, x1, x2, x3, x4, x5, x6, x7, x8⟩ | with_reducible exact ⟨y0', y1', y2', y3', y4', y5', y6', y7', y8'⟩ | (refine ⟨?_, ?_, ?_, ?_, ?_, ?_, ?_, ?_, ?_⟩ <;> go_simp)) (
              first
              | (
              go_at_call 93
              refine (HTm.out _ DG1.out DX.out).mono ?_
              rintro en w5 ⟨a5, k5, rfl, hd5, hb5⟩
              have Z5 := Hd.mk hd5
              have RF1 := Hd.mk (RD1.out.below hb5)
              have RF2 := Hd.mk (RD2.out.below hb5)
              have DO := Hd.mk (DG2.out.below hb5)
              have BF := Hd.mk (BD.out.trans (hb5.mono BD.out.size))
              have d0' := cell_trP hb5 c0
              have d1' := cell_trP hb5 c1'
              have d2' := cell_trP hb5 c2'
              have d3' := cell_trP hb5 c3'
              have d4' := cell_trP hb5 c4
              have d5' := cell_trP hb5 c5
              have d6' := cell_trP hb5 c6
              have d7' := cell_trP hb5 c7
              have d8' := cell_trP hb5 c8
              obtain ⟨r0, r1, r2⟩ := RF1.out.cell
              obtain ⟨z0, z1, z2⟩ := RF2.out.cell
              have f1 := RF1.out.frozen
              have f2 := RF2.out.frozen
              have x0 := (set3_otherN w5 (.bool false) (.slice a5 (nd Z) k5) (.int .i64 E) hne4 0).trans d0'
              have x1 := (set3_otherN w5 (.bool false) (.slice a5 (nd Z) k5) (.int .i64 E) hne4 1).trans d1'
              have x2 := (set3_otherN w5 (.bool false) (.slice a5 (nd Z) k5) (.int .i64 E) hne4 2).trans d2'
              have x3 := (set3_otherN w5 (.bool false) (.slice a5 (nd Z) k5) (.int .i64 E) hne2 0).trans d3'
              have x4 := (set3_otherN w5 (.bool false) (.slice a5 (nd Z) k5) (.int .i64 E) hne2 1).trans d4'
              have x5 := (set3_otherN w5 (.bool false) (.slice a5 (nd Z) k5) (.int .i64 E) hne2 2).trans d5'
              have x6 := (set3_otherN w5 (.bool false) (.slice a5 (nd Z) k5) (.int .i64 E) hne4' 0).trans d6'
              have x7 := (set3_otherN w5 (.bool false) (.slice a5 (nd Z) k5) (.int .i64 E) hne4' 1).trans d7'
              have x8 := (set3_otherN w5 (.bool false) (.slice a5 (nd Z) k5) (.int .i64 E) hne4' 2).trans d8'
              have y0' := (set3_otherN _ (.bool false) (.slice g2 m2 k2) (.int .i64 E2) hnf4 0).trans x0
              have y1' := (set3_otherN _ (.bool false) (.slice g2 m2 k2) (.int .i64 E2) hnf4 1).trans x1
              have y2' := (set3_otherN _ (.bool false) (.slice g2 m2 k2) (.int .i64 E2) hnf4 2).trans x2
              have y3' := (set3_otherN _ (.bool false) (.slice g2 m2 k2) (.int .i64 E2) hnf2 0).trans x3
              have y4' := (set3_otherN _ (.bool false) (.slice g2 m2 k2) (.int .i64 E2) hnf2 1).trans x4
              have y5' := (set3_otherN _ (.bool false) (.slice g2 m2 k2) (.int .i64 E2) hnf2 2).trans x5
              have y6' := (set3_otherN _ (.bool false) (.slice g2 m2 k2) (.int .i64 E2) hnf4' 0).trans x6
              have y7' := (set3_otherN _ (.bool false) (.slice g2 m2 k2) (.int .i64 E2) hnf4' 1).trans x7
              have y8' := (set3_otherN _ (.bool false) (.slice g2 m2 k2) (.int .i64 E2) hnf4' 2).trans x8
              clear hd5 hb5))
            go_wp2_with fail
            refine bodyPost_ret (v := .tuple #[.agg #[.bool false, .slice a5 (nd Z) k5, .int .i64 E], .agg #[.bool false, .slice g2 m2 k2, .int .i64 E2], .bool true]) (by simp [results, Tryz.results85, go_sem, r0, r1, r2, z0, z1, z2]) rfl ⟨Or.inl ⟨l2, a5, k5, g2, k2, HWl.out, by rw [HZM.out.1, HZM.out.2.1, HZM.out.2.2.1, HZM.out.2.2.2, HM2'.out], ?_, ?_⟩, ?_⟩
            · first
              | (rw [HZM.out.1]; exact Z5.out.set6 RF1.out RF2.out (by omega) _ _ _ _ _ _)
              | (rw [HZM.out.1]; exact (Z5.out.set6 RF1.out RF2.out (by omega) _ _ _ _ _ _).keep fun _ _ _ h => h)
            · first
              | (rw [HZM.out.2.2.1]; exact DO.out.set6 RF1.out RF2.out (by omega) _ _ _ _ _ _)
              | (rw [HZM.out.2.2.1]; exact (DO.out.set6 RF1.out RF2.out (by omega) _ _ _ _ _ _).keep fun _ _ _ h => h)
            · repeat (refine Below.setCell ?_ (by simp <;> omega) _)
              exact BF.out
        · have e1 : (pa == a) = false := by rw [beq_eq_false_iff_ne]; exact h1
          by_cases h3 : pb = a
          · have e2 : (pb == a) = true := by rw [beq_iff_eq]; exact h3
            by_cases h2 : pa = f
            · have e3 : (pa != f) = false := by rw [bne_eq_false_iff_eq]; exact h2
              have HN3 := Hd.mk (HSkip.out fun j => by cases j <;> simp [sr, ds] <;> omega)
              clear h1 h2 h3 hne HSkip
              clear IH HD HA HM1 HM2 N1 N2 SZ HW HNo HP HN HNd hm HRx B1 HT HBw
              go_upto_region 7 with fail
              rw [HV1.out]
              go_wp2_with fail
              refine (HOf.out _).mono ?_; rintro e w2 ⟨a1, d1, rfl, hd, hb⟩
              have X2 := Hd.mk (X1.out.trans (hb.mono s1))
              have p0 := cell_trP hb q0
              have p1 := cell_trP hb q1
              have s2 := Nat.le_trans s1 hb.size
              have hbx2 : wr.heap.size < w2.heap.size := World.block_lt_of_cell? _ _ p0
              have t2 := (T0.out.belowB X2.out (by omega)).cell
              obtain ⟨V2, hV2, _, v2⟩ := nbox1 w2 false a1 (nd (mnt px)) d1 (exq px)
              have HV2 := Hd.mk hV2
              have X3 := Hd.mk (X2.out.trans (v2.mono s2))
              have y0 := cell_trP v2 p0
              have y1 := cell_trP v2 p1
              clear hd hb hV2 v2 q0 q1 q2 HOf HV1 X1 X2 HB T0
              generalize nd (mnt px) = nx at *
              generalize exq px = ex at *
              go_upto_region 8 with fail
              rw [HV2.out]
              clear p0 p1 t2 HV2 t0 c1 c2 c3
              go_wp2_with fail
              exact ⟨⟨k + 1, by omega, by go_num, HN3, X3⟩, by simp [intOf]; omega⟩
            · have e3 : (pa != f) = true := by rw [bne_iff_ne]; exact h2
              have HI : Hd (∀ w2, PrsU w2 (some ⟨bb, oo, none⟩) L → Calls Tryz.prog 85 #[.agg #[.slice (some ⟨bb, oo, none⟩) N cu], .int .i64 pa, .int .i64 b, .int .i64 a] w2 (RWayRet L a pa b w2)) := ⟨fun w2 hB => IH.out a pa w2 (HD.out.next (k := true) hm.out h3 h2) hB⟩
              have HWk : Hd (∀ l, Wk L a pa b l → Wk L f a b ((⟨pa, pb, px⟩, true) :: l)) := ⟨fun l hw => ⟨hm.out, h3, h2, hw⟩⟩
              have HNn : Hd ((∀ l, ¬ Wk L a pa b l) → NoW L f a b (k + 1)) := ⟨fun hn => HNo.out.succ fun j l hw => by
                rw [hpk] at hw
                have hk2 : j = true := by
                  have := hw.2.1
                  cases j
                  · first | rfl | exact absurd this (by show pa ≠ a; omega)
                  · first | rfl | exact absurd this (by show pb ≠ a; omega)
                subst hk2
                exact hn l hw.2.2.2⟩
              clear h1 h2 hne h3 HSkip IH HD HNo HM1 HM2 SZ HW HA hm HT HBw
              go_upto_region 7 with fail
              rw [HV1.out]
              go_wp2_with fail
              refine (HOf.out _).mono ?_; rintro e w2 ⟨a1, d1, rfl, hd, hb⟩
              have X2 := Hd.mk (X1.out.trans (hb.mono s1))
              have p0 := cell_trP hb q0
              have p1 := cell_trP hb q1
              have p2 := cell_trP hb q2
              have s2 := Nat.le_trans s1 hb.size
              have hbx2 : wr.heap.size < w2.heap.size := World.block_lt_of_cell? _ _ p0
              have t2 := (T0.out.belowB X2.out (by omega)).cell
              have D2 := Hd.mk hd
              obtain ⟨V2, hV2, nb, v2⟩ := nbox1 w2 false a1 (nd (mnt px)) d1 (exq px)
              have HV2 := Hd.mk hV2
              have X3 := Hd.mk (X2.out.trans (v2.mono s2))
              have NB := Hd.mk nb
              have D3 := Hd.mk (D2.out.below v2)
              have y0 := cell_trP v2 p0
              have y1 := cell_trP v2 p1
              have s3 := Nat.le_trans s2 v2.size
              have hlb : w2.heap.size < V2.heap.size := NB.out.lt
              have t3 := (T0.out.belowB X3.out (by omega)).cell
              have HP3 := Hd.mk (HP.out.below (B1.out.trans (X3.out.mono (by omega))))
              clear hd hb hV2 nb v2 q0 q1 q2
              generalize hnx : nd (mnt px) = nx at *
              have HNX := Hd.mk hnx
              clear hnx
              generalize hex : exq px = ex at *
              have HEX := Hd.mk hex
              clear hex
              go_upto_region 8 with fail
              rw [HV2.out]
              clear p0 p1 p2 t2 HV2 HV1 HOf t0 c1 c2 c3
              go_wp2_with fail
              refine (HI.out _ HP3.out).mono ?_
              rintro e w4 ⟨⟨l, g1, k1, g2, k2, hw, rfl, hg1, hg2⟩ | ⟨hn, rfl⟩, hb⟩
              rotate_left
              · have HN3 := Hd.mk (HNn.out hn)
                have X4 := Hd.mk (X3.out.trans (hb.mono s3))
                have o0 := cell_trP hb y0
                have o1 := cell_trP hb y1
                have s4 := Nat.le_trans s3 hb.size
                obtain ⟨V4, hV4, _, _, v4⟩ := nbox2 w4 false none 0 0 0 false none 0 0 0
                have X5 := Hd.mk (X4.out.trans (v4.mono s4))
                have o2 := cell_trP v4 o0
                have o3 := cell_trP v4 o1
                have HV4 := Hd.mk hV4
                clear hn hb hV4 v4 y0 y1
                go_upto_region 14 with fail
                rw [HV4.out]
                clear o0 o1
                go_wp2_with fail
                exact ⟨⟨k + 1, by omega, by go_num, HN3, X5⟩, by simp [intOf]; omega⟩
              have HWl := Hd.mk (HWk.out l hw)
              have HMem := Hd.mk hw.mem
              have HLn : Hd (l.length ≤ 8) := ⟨hw.short tr⟩
              have X4 := Hd.mk (X3.out.trans (hb.mono s3))
              have s4 := Nat.le_trans s3 hb.size
              have NB4 := Hd.mk (NB.out.below hb)
              have D4 := Hd.mk (D3.out.below hb)
              obtain ⟨V4, hV4, na, nb', v4⟩ := nbox2 w4 false g1 (nd (wM false l)) k1 (wE false l) false g2 (nd (wM true l)) k2 (wE true l)
              have NA := Hd.mk na
              have NBB := Hd.mk nb'
              have X5 := Hd.mk (X4.out.trans (v4.mono s4))
              have NB5 := Hd.mk (NB4.out.below v4)
              have D5 := Hd.mk (D4.out.below v4)
              have G1 := Hd.mk (hg1.below v4)
              have G2 := Hd.mk (hg2.below v4)
              have HV4 := Hd.mk hV4
              have s5 := Nat.le_trans s4 v4.size
              have R1 := Hd.mk (N1.out.belowB X5.out (by omega))
              have R2 := Hd.mk (N2.out.belowB X5.out (by omega))
              have B5 := Hd.mk (B1.out.trans (X5.out.mono (by omega)))
              have MB := Hd.mk fun k => wM_bd ps k l HMem.out
              have EB := Hd.mk fun k => wE_bd ps k l HMem.out
              have HTm : Hd (∀ w', Dgs w' g2 (wM true l) → Dgs w' a1 (mnt px) → Calls Tryz.prog 93 #[.agg #[.bool false, .slice g2 (nd (wM true l)) k2, .int .i64 (wE true l)], .agg #[.bool false, .slice a1 nx d1, .int .i64 ex]] w' (NRet false (wM true l * mnt px) (wE true l + ex) w')) := ⟨fun w' h h' => by
                have hb1 := MB.out true
                have hb2 := EB.out true
                have hln := HLn.out
                have he := HRx.out.exq
                rw [← HNX.out, ← HEX.out]
                exact times_pos g2 _ k2 _ a1 _ d1 _ w' h h' hb1.1 HRx.out.mnt.1 (nd_small hb1.2 (by omega)) (nd_rate HRx.out) (by omega) (by omega)⟩
              have HZM : Hd (wM true ((⟨pa, pb, px⟩, true) :: l) = wM true l * mnt px ∧ wE true ((⟨pa, pb, px⟩, true) :: l) = wE true l + ex ∧ wM false ((⟨pa, pb, px⟩, true) :: l) = wM false l ∧ wE false ((⟨pa, pb, px⟩, true) :: l) = wE false l) := ⟨by rw [← HEX.out]; exact ⟨rfl, rfl, rfl, rfl⟩⟩
              clear hw hb hV4 na nb' v4 hg1 hg2 y0 y1 MB EB HMem hpk
              generalize hzm : wM true l * mnt px = Z at *
              generalize hze : wE true l + ex = E at *
              generalize (⟨pa, pb, px⟩, true) :: l = l2 at *
              generalize wM false l = M1 at *
              generalize wM true l = M2 at *
              generalize wE false l = E1 at *
              generalize wE true l = E2 at *
              generalize mnt px = Mx at *
              have s5' : w.heap.size + 3 ≤ V4.heap.size := s5
              have hne4 : w4.heap.size ≠ w.heap.size + 1 := by omega
              have hne4' : w4.heap.size + 1 ≠ w.heap.size + 1 := by omega
              have hne2 : w2.heap.size ≠ w.heap.size + 1 := by omega
              have hnf4 : w4.heap.size ≠ w.heap.size + 1 + 1 := by omega
              have hnf4' : w4.heap.size + 1 ≠ w.heap.size + 1 + 1 := by omega
              have hnf2 : w2.heap.size ≠ w.heap.size + 1 + 1 := by omega
              clear s1 s2 s3 s4 hzm hze
              generalize hm1 : nd M1 = m1 at *
              generalize hm2 : nd M2 = m2 at *
              have HM1' := Hd.mk hm1
              have HM2' := Hd.mk hm2
              clear hm1 hm2
              go_upto_region 14 with fail
              rw [HV4.out]
              go_wp2_with fail
              have c0 : V4.drew.cell? ⟨w4.heap.size, 0, none⟩ = _ := NA.out.cell.1
              have c1' : V4.drew.cell? ⟨w4.heap.size, 1, none⟩ = _ := NA.out.cell.2.1
              have c2' : V4.drew.cell? ⟨w4.heap.size, 2, none⟩ = _ := NA.out.cell.2.2
              have c3' : V4.drew.cell? ⟨w2.heap.size, 0, none⟩ = _ := NB5.out.cell.1
              have c4 : V4.drew.cell? ⟨w2.heap.size, 1, none⟩ = _ := NB5.out.cell.2.1
              have c5 : V4.drew.cell? ⟨w2.heap.size, 2, none⟩ = _ := NB5.out.cell.2.2
              have c6 : V4.drew.cell? ⟨w4.heap.size + 1, 0, none⟩ = _ := NBB.out.cell.1
              have c7 : V4.drew.cell? ⟨w4.heap.size + 1, 1, none⟩ = _ := NBB.out.cell.2.1
              have c8 : V4.drew.cell? ⟨w4.heap.size + 1, 2, none⟩ = _ := NBB.out.cell.2.2
              have DX : Hd (Dgs V4.drew a1 Mx) := ⟨D5.out.keep fun _ _ _ h => h⟩
              have DG1 : Hd (Dgs V4.drew g1 M1) := ⟨G1.out.keep fun _ _ _ h => h⟩
              have DG2 : Hd (Dgs V4.drew g2 M2) := ⟨G2.out.keep fun _ _ _ h => h⟩
              have RD1 := Hd.mk R1.out.drew
              have RD2 := Hd.mk R2.out.drew
              have BD := Hd.mk B5.out.drew
              clear D2 D3 D4 D5 G1 G2 NA NBB NB5 NB4 NB R1 R2 B5 HI HWk HNn HRx HNd HP3 HV4 T0 N1 N2 X1 X2 X3 X4 X5 HB HP B1 t3
              go_region_held3 (fun w' => w'.cell? ⟨w4.heap.size, 0, none⟩ = some (.bool false) ∧ w'.cell? ⟨w4.heap.size, 1, none⟩ = some (.slice g1 m1 k1) ∧ w'.cell? ⟨w4.heap.size, 2, none⟩ = some (.int .i64 E1) ∧ w'.cell? ⟨w2.heap.size, 0, none⟩ = some (.bool false) ∧ w'.cell? ⟨w2.heap.size, 1, none⟩ = some (.slice a1 nx d1) ∧ w'.cell? ⟨w2.heap.size, 2, none⟩ = some (.int .i64 ex) ∧ w'.cell? ⟨w4.heap.size + 1, 0, none⟩ = some (.bool false) ∧ w'.cell? ⟨w4.heap.size + 1, 1, none⟩ = some (.slice g2 m2 k2) ∧ w'.cell? ⟨w4.heap.size + 1, 2, none⟩ = some (.int .i64 E2)) (first | with_reducible exact ⟨c0, c1', c2', c3', c4, c5, c6, c7, c8⟩ | with_reducible exact ⟨d0', d1', d2', d3', d4', d5', d6', d7', d8'⟩ | with_reducible exact ⟨x0, x1, x2, x3, x4, x5, x6, x7, x8⟩ | with_reducible exact ⟨y0', y1', y2', y3', y4', y5', y6', y7', y8'⟩ | (refine ⟨?_, ?_, ?_, ?_, ?_, ?_, ?_, ?_, ?_⟩ <;> go_simp)) (
                first
                | (
                go_at_call 93
                refine (HTm.out _ DG2.out DX.out).mono ?_
                rintro en w5 ⟨a5, k5, rfl, hd5, hb5⟩
                have Z5 := Hd.mk hd5
                have RF1 := Hd.mk (RD1.out.below hb5)
                have RF2 := Hd.mk (RD2.out.below hb5)
                have DO := Hd.mk (DG1.out.below hb5)
                have BF := Hd.mk (BD.out.trans (hb5.mono BD.out.size))
                have d0' := cell_trP hb5 c0
                have d1' := cell_trP hb5 c1'
                have d2' := cell_trP hb5 c2'
                have d3' := cell_trP hb5 c3'
                have d4' := cell_trP hb5 c4
                have d5' := cell_trP hb5 c5
                have d6' := cell_trP hb5 c6
                have d7' := cell_trP hb5 c7
                have d8' := cell_trP hb5 c8
                obtain ⟨r0, r1, r2⟩ := RF1.out.cell
                obtain ⟨z0, z1, z2⟩ := RF2.out.cell
                have f1 := RF1.out.frozen
                have f2 := RF2.out.frozen
                have x0 := (set3_otherN w5 (.bool false) (.slice g1 m1 k1) (.int .i64 E1) hne4 0).trans d0'
                have x1 := (set3_otherN w5 (.bool false) (.slice g1 m1 k1) (.int .i64 E1) hne4 1).trans d1'
                have x2 := (set3_otherN w5 (.bool false) (.slice g1 m1 k1) (.int .i64 E1) hne4 2).trans d2'
                have x3 := (set3_otherN w5 (.bool false) (.slice g1 m1 k1) (.int .i64 E1) hne2 0).trans d3'
                have x4 := (set3_otherN w5 (.bool false) (.slice g1 m1 k1) (.int .i64 E1) hne2 1).trans d4'
                have x5 := (set3_otherN w5 (.bool false) (.slice g1 m1 k1) (.int .i64 E1) hne2 2).trans d5'
                have x6 := (set3_otherN w5 (.bool false) (.slice g1 m1 k1) (.int .i64 E1) hne4' 0).trans d6'
                have x7 := (set3_otherN w5 (.bool false) (.slice g1 m1 k1) (.int .i64 E1) hne4' 1).trans d7'
                have x8 := (set3_otherN w5 (.bool false) (.slice g1 m1 k1) (.int .i64 E1) hne4' 2).trans d8'
                have y0' := (set3_otherN _ (.bool false) (.slice a5 (nd Z) k5) (.int .i64 E) hnf4 0).trans x0
                have y1' := (set3_otherN _ (.bool false) (.slice a5 (nd Z) k5) (.int .i64 E) hnf4 1).trans x1
                have y2' := (set3_otherN _ (.bool false) (.slice a5 (nd Z) k5) (.int .i64 E) hnf4 2).trans x2
                have y3' := (set3_otherN _ (.bool false) (.slice a5 (nd Z) k5) (.int .i64 E) hnf2 0).trans x3
                have y4' := (set3_otherN _ (.bool false) (.slice a5 (nd Z) k5) (.int .i64 E) hnf2 1).trans x4
                have y5' := (set3_otherN _ (.bool false) (.slice a5 (nd Z) k5) (.int .i64 E) hnf2 2).trans x5
                have y6' := (set3_otherN _ (.bool false) (.slice a5 (nd Z) k5) (.int .i64 E) hnf4' 0).trans x6
                have y7' := (set3_otherN _ (.bool false) (.slice a5 (nd Z) k5) (.int .i64 E) hnf4' 1).trans x7
                have y8' := (set3_otherN _ (.bool false) (.slice a5 (nd Z) k5) (.int .i64 E) hnf4' 2).trans x8
                clear hd5 hb5))
              go_wp2_with fail
              refine bodyPost_ret (v := .tuple #[.agg #[.bool false, .slice g1 m1 k1, .int .i64 E1], .agg #[.bool false, .slice a5 (nd Z) k5, .int .i64 E], .bool true]) (by simp [results, Tryz.results85, go_sem, r0, r1, r2, z0, z1, z2]) rfl ⟨Or.inl ⟨l2, g1, k1, a5, k5, HWl.out, by rw [HZM.out.1, HZM.out.2.1, HZM.out.2.2.1, HZM.out.2.2.2, HM1'.out], ?_, ?_⟩, ?_⟩
              · first
                | (rw [HZM.out.2.2.1]; exact DO.out.set6 RF1.out RF2.out (by omega) _ _ _ _ _ _)
                | (rw [HZM.out.2.2.1]; exact (DO.out.set6 RF1.out RF2.out (by omega) _ _ _ _ _ _).keep fun _ _ _ h => h)
              · first
                | (rw [HZM.out.1]; exact Z5.out.set6 RF1.out RF2.out (by omega) _ _ _ _ _ _)
                | (rw [HZM.out.1]; exact (Z5.out.set6 RF1.out RF2.out (by omega) _ _ _ _ _ _).keep fun _ _ _ h => h)
              · repeat (refine Below.setCell ?_ (by simp <;> omega) _)
                exact BF.out
          · have e2 : (pb == a) = false := by rw [beq_eq_false_iff_ne]; exact h3
            have HN3 := Hd.mk (HSkip.out fun j => by cases j <;> simp [sr, ds] <;> omega)
            clear h1 h3 hne HSkip
            clear IH HD HA HM1 HM2 N1 N2 SZ HW HNo HP HN HNd hm HRx B1 HT HBw
            go_upto_region 7 with fail
            rw [HV1.out]
            go_wp2_with fail
            refine (HOf.out _).mono ?_; rintro e w2 ⟨a1, d1, rfl, hd, hb⟩
            have X2 := Hd.mk (X1.out.trans (hb.mono s1))
            have p0 := cell_trP hb q0
            have p1 := cell_trP hb q1
            have s2 := Nat.le_trans s1 hb.size
            have hbx2 : wr.heap.size < w2.heap.size := World.block_lt_of_cell? _ _ p0
            have t2 := (T0.out.belowB X2.out (by omega)).cell
            obtain ⟨V2, hV2, _, v2⟩ := nbox1 w2 false a1 (nd (mnt px)) d1 (exq px)
            have HV2 := Hd.mk hV2
            have X3 := Hd.mk (X2.out.trans (v2.mono s2))
            have y0 := cell_trP v2 p0
            have y1 := cell_trP v2 p1
            clear hd hb hV2 v2 q0 q1 q2 HOf HV1 X1 X2 HB T0
            generalize nd (mnt px) = nx at *
            generalize exq px = ex at *
            go_upto_region 8 with fail
            rw [HV2.out]
            clear p0 p1 t2 HV2 t0 c1 c2 c3
            go_wp2_with fail
            exact ⟨⟨k + 1, by omega, by go_num, HN3, X3⟩, by simp [intOf]; omega⟩
      · have hge : ¬ (k : Int) < N := by omega
        have HR : Hd (∀ l, ¬ Wk L f a b l) := ⟨fun l => NoW.all (by rw [HN.out]; rw [show N = k by omega]; exact HNo.out) HA.out l⟩
        obtain ⟨r0, r1, r2⟩ := HM1.out.cell
        obtain ⟨z0, z1, z2⟩ := HM2.out.cell
        have f1 := HM1.out.frozen
        have f2 := HM2.out.frozen
        clear hlt
        go_wp2_with fail
        refine bodyPost_ret (v := .tuple #[.agg #[.bool false, .slice none 0 0, .int .i64 0], .agg #[.bool false, .slice none 0 0, .int .i64 0], .bool false]) (by simp [results, Tryz.results85, go_sem, r0, r1, r2, z0, z1, z2]) rfl ⟨Or.inr ⟨HR.out, rfl⟩, ?_⟩
        repeat (refine Below.setCell ?_ (by simp <;> omega) _)
        exact HBw.out

end Go.Proofs.YteikihidblcljaaGreat
