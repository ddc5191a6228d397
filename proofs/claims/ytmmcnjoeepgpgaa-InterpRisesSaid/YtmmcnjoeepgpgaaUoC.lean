/- InterpRises' walk. -/
import Derived.Test.YtmmcnjoeepgpgaaUnC
namespace Go.Proofs.Ytmmcnjoeepgpgaa
open Go.RowKit
set_option linter.unusedSimpArgs false
set_option linter.unusedVariables false

theorem fge (x y : Nat) (hx : F64 x) (hy : F64 y) (hn : nn x = false) (hm : nn y = false) : (FloatKind.f64.format.order x y == some .gt || FloatKind.f64.format.order x y == some .eq) = decide (rk y ≤ rk x) := by
  rw [fgt x y hx hy, feq x y hx hy, hn, hm]
  rw [Bool.eq_iff_iff]; simp; omega
theorem geB (x y : Nat) (hx : F64 x) (hy : F64 y) (hn : nn x = false) (hm : nn y = false) (b : Bool) (h : decide (rk y ≤ rk x) = b) : (FloatKind.f64.format.order x y == some .gt || FloatKind.f64.format.order x y == some .eq) = b := (fge x y hx hy hn hm).trans h
def upTo (Y : List Nat) (k : Nat) : Prop := ∀ j, j + 1 < k → rk (Y.getD j 0) ≤ rk (Y.getD (j + 1) 0)
def dnTo (Y : List Nat) (k : Nat) : Prop := ∀ j, j + 1 < k → rk (Y.getD (j + 1) 0) ≤ rk (Y.getD j 0)
theorem upTo_step {Y : List Nat} {k : Nat} (h : upTo Y (k + 1)) (h2 : rk (Y.getD k 0) ≤ rk (Y.getD (k + 1) 0)) : upTo Y (k + 2) := fun j hj => by
  by_cases e : j = k
  · rw [e]; exact h2
  · exact h j (by omega)
theorem dnTo_step {Y : List Nat} {k : Nat} (h : dnTo Y (k + 1)) (h2 : rk (Y.getD (k + 1) 0) ≤ rk (Y.getD k 0)) : dnTo Y (k + 2) := fun j hj => by
  by_cases e : j = k
  · rw [e]; exact h2
  · exact h j (by omega)

set_option maxHeartbeats 12800000 in
set_option maxRecDepth 100000 in
theorem interpRises_any (kind : Int) (ax : Option Addr) (X : List Int) (cx : Nat) (ay : Option Addr) (Y : List Nat) (cy : Nat) (x y : Int) (w : World) (_hk : -9223372036854775808 ≤ kind ∧ kind ≤ 9223372036854775807) (ht : Tbl w ax X ay Y) (_hrx : Room ax X.length cx) (hry : Room ay Y.length cy) (_hx : (Lit.int .i64 x).wf = true) (_hy : (Lit.int .i64 y).wf = true) :
    Calls Try.prog 6 #[.agg #[.int .i64 kind, .slice ax X.length cx, .slice ay Y.length cy], .int .i64 x, .int .i64 y] w fun e w' => e = .returned (.bool true) ∧ Below w.heap.size w w' := by
  have HC := Hd.mk fun w1 h => check_any kind ax X cx ay Y cy w1 h
  have HA := Hd.mk fun w1 h => at_any10 kind ax X cx ay Y cy x w1 h hry
  have HB := Hd.mk fun w1 h => at_any10 kind ax X cx ay Y cy y w1 h hry
  obtain ⟨W, hW, b1, b2⟩ := box_t w kind ax X.length cx ay Y.length cy
  obtain ⟨y0, y1, y2⟩ := b1.cell
  have B1 := Hd.mk b1
  have B2 := Hd.mk b2
  have T := Hd.mk (ht.belowK b2)
  by_cases hc : chkT kind X Y = 0
  rotate_left
  · have d1 : (chkT kind X Y != 0) = true := by rw [bne_iff_ne]; exact hc
    generalize chkT kind X Y = E at *
    generalize X.length = n at *
    generalize Y.length = m at *
    clear b1 b2 ht hc
    go_enter Try.func6, Try.ntmps6
    go_upto_region 1 with fail
    clear hW
    go_wp2_with fail
    refine (HC.out _ T.out).mono ?_; rintro e w1 ⟨rfl, hb⟩
    have C1 := Hd.mk (B2.out.trans (hb.mono B2.out.size))
    clear hb
    go_wp2_with fail
    refine (awake10_any _).mono ?_; rintro e w3 ⟨rfl, hb⟩
    have C3 := Hd.mk (C1.out.trans (hb.mono C1.out.size))
    clear hb
    go_wp2_with fail
    go_ret
    exact ⟨rfl, C3.out⟩
  obtain ⟨ok, kl, kh, k4⟩ := chk_ok hc ht.fy.wf
  by_cases hk4 : kind = 4
  · subst hk4
    rw [hc] at HC
    generalize X.length = n at *
    generalize Y.length = m at *
    clear b1 b2 ht hc ok
    go_enter Try.func6, Try.ntmps6
    go_upto_region 1 with fail
    clear hW
    go_wp2_with fail
    refine (HC.out _ T.out).mono ?_; rintro e w1 ⟨rfl, hb⟩
    have C1 := Hd.mk (B2.out.trans (hb.mono B2.out.size))
    obtain ⟨z0, z1, z2⟩ := (B1.out.below hb).cell
    clear hb y0 y1 y2
    go_wp2_with fail
    refine (awake10_any _).mono ?_; rintro e w3 ⟨rfl, hb⟩
    have C3 := Hd.mk (C1.out.trans (hb.mono C1.out.size))
    clear hb
    go_wp2_with fail
    go_ret
    exact ⟨rfl, C3.out⟩
  have e4 : (kind == 4) = false := by simpa using hk4
  have lyx := ok.ly
  have nmax := ok.max
  have npos := ok.pos
  obtain ⟨n', hn'⟩ : ∃ n', n' = X.length := ⟨_, rfl⟩
  have hnn : ((n' : Int) != X.length) = false := by rw [hn']; simp
  have HN' := Hd.mk hn'
  rw [hc] at HC
  rw [lyx] at HC HA HB B1 b1 y2 hW ⊢
  have d256 : decide ((X.length : Int) > 256) = false := by simp; omega
  have dneq : ((X.length : Int) != X.length) = false := by simp
  by_cases hxy : y < x
  · have d1 : decide (x > y) = true := by simpa using hxy
    clear b1 b2 ht hc ok k4
    generalize X.length = n at *
    clear hxy lyx hn' hnn
    go_enter Try.func6, Try.ntmps6
    go_upto_region 1 with fail
    clear hW
    go_wp2_with fail
    refine (HC.out _ T.out).mono ?_; rintro e w1 ⟨rfl, hb⟩
    have C1 := Hd.mk (B2.out.trans (hb.mono B2.out.size))
    obtain ⟨z0, z1, z2⟩ := (B1.out.below hb).cell
    clear hb y0 y1 y2
    go_wp2_with fail
    refine (awake10_any _).mono ?_; rintro e w3 ⟨rfl, hb⟩
    have C3 := Hd.mk (C1.out.trans (hb.mono C1.out.size))
    clear hb
    go_wp2_with fail
    go_ret
    exact ⟨rfl, C3.out⟩
  have dxy : decide (x > y) = false := by simp; omega
  have HM : Hd ((atT kind X Y x).2 = 0 → (atT kind X Y y).2 = 0 → (F64 (atT kind X Y x).1 ∧ nn (atT kind X Y x).1 = false) ∧ (F64 (atT kind X Y y).1 ∧ nn (atT kind X Y y).1 = false) ∧ (upTo Y X.length → rk (atT kind X Y x).1 ≤ rk (atT kind X Y y).1) ∧ (dnTo Y X.length → rk (atT kind X Y y).1 ≤ rk (atT kind X Y x).1)) := ⟨fun h1 h2 => by
    rw [fd_at] at h1 h2
    obtain ⟨_, l1, l2, _⟩ := fd_zero h1
    obtain ⟨_, m1, m2, _⟩ := fd_zero h2
    rw [at_vl hc l1 l2, at_vl hc m1 m2]
    have a := vl_bd ok kl kh k4 l1 l2
    have b := vl_bd ok kl kh k4 m1 m2
    have c := vl_mono ok kl (show kind ≤ 3 by omega) l1 (show x ≤ y by omega) m2
    exact ⟨⟨a.1, a.2.1⟩, ⟨b.1, b.2.1⟩, c⟩⟩
  have HWf := Hd.mk ok.wf
  have HFn := Hd.mk fun i hi => nn_fin _ (ok.fn i hi)
  have HY := Hd.mk lyx
  generalize atT kind X Y x = R1 at *
  generalize atT kind X Y y = R2 at *
  obtain ⟨V1, E1⟩ := R1
  obtain ⟨V2, E2⟩ := R2
  unfold AtRet at HA HB
  dsimp only at HA HB HM
  clear b1 b2 ht hc ok k4 hn'
  generalize X.length = n at *
  have n0 : (1 : Int) ≤ n := by omega
  have n3 : (n : Int) ≤ 256 := by omega
  clear lyx hxy hnn
  go_enter Try.func6, Try.ntmps6
  go_upto_region 1 with fail
  clear hW
  go_wp2_with fail
  refine (HC.out _ T.out).mono ?_; rintro e w1 ⟨rfl, hb⟩
  have C1 := Hd.mk (B2.out.trans (hb.mono B2.out.size))
  have T1 := Hd.mk (T.out.belowK hb)
  have U1 := Hd.mk (B1.out.below hb)
  obtain ⟨z0, z1, z2⟩ := U1.out.cell
  clear hb y0 y1 y2
  go_wp2_with fail
  go_loopw [7, 8, 9] (fun uv dv iv wr => ∃ (k q : Nat) (u d : Bool), k + 1 ≤ n ∧ uv = .bool u ∧ dv = .bool d ∧ iv = .int .i64 ((k : Int) + 1) ∧ wr = w1.drewN q ∧ Hd (u = true → upTo Y (k + 1)) ∧ Hd (d = true → dnTo Y (k + 1))) (fun _ _ iv _ => n - (intOf iv).toNat)
  case atStart => exact ⟨0, 0, true, true, npos, rfl, rfl, rfl, rfl, ⟨fun _ j hj => by omega⟩, ⟨fun _ j hj => by omega⟩⟩
  case round =>
    obtain ⟨k, q, u, d, hk, rfl, rfl, rfl, rfl, HU, HD⟩ := hrel
    by_cases hlt : k + 1 < n
    · have hlt' : (k : Int) + 1 < n := by omega
      obtain ⟨by_, oy, hay, c1⟩ := T1.out.fy.at k (by rw [HY.out]; omega)
      obtain ⟨by', oy', hay', c2⟩ := T1.out.fy.at (k + 1) (by rw [HY.out]; exact hlt)
      rw [hay] at hay'
      cases hay'
      have HAY := Hd.mk hay
      subst hay
      have wa := HWf.out k
      have wb := HWf.out (k + 1)
      have na := HFn.out k (by omega)
      have nb := HFn.out (k + 1) hlt
      have k0 : (0 : Int) ≤ (k : Int) + 1 := by omega
      have wr1 : IntKind.i64.wrap ((k : Int) + 1 - 1) = (k : Int) := by rw [Int.add_sub_cancel]; exact IntWalk.i64_in _ (by omega)
      have wr2 : ((k : Int) + 1).toNat = k + 1 := by omega
      have k1 : (0 : Int) ≤ k := by omega
      have k2 : (k : Int) < n := by omega
      obtain ⟨g1, hg1⟩ : ∃ b, decide (rk (Y.getD k 0) ≤ rk (Y.getD (k + 1) 0)) = b := ⟨_, rfl⟩
      obtain ⟨g2, hg2⟩ : ∃ b, decide (rk (Y.getD (k + 1) 0) ≤ rk (Y.getD k 0)) = b := ⟨_, rfl⟩
      have q1 := geB (Y.getD (k + 1) 0) (Y.getD k 0) wb wa nb na g1 hg1
      have q2 := leB (Y.getD (k + 1) 0) (Y.getD k 0) wb wa nb na g2 hg2
      have HU' : Hd ((u && g1) = true → upTo Y (k + 2)) := ⟨fun h => by
        rw [Bool.and_eq_true] at h
        exact upTo_step (HU.out h.1) (of_decide_eq_true (hg1.trans h.2))⟩
      have HD' : Hd ((d && g2) = true → dnTo Y (k + 2)) := ⟨fun h => by
        rw [Bool.and_eq_true] at h
        exact dnTo_step (HD.out h.1) (of_decide_eq_true (hg2.trans h.2))⟩
      clear hg1 hg2 wa wb na nb hlt HU HD
      generalize Y.getD k 0 = ya at *
      generalize Y.getD (k + 1) 0 = yb at *
      cases u <;> cases d
      all_goals
        go_wp2_with fail
        go_quiet (fail)
        go_wp2_with fail
        go_quiet (fail)
        go_wp2_with fail
      · exact ⟨⟨k + 1, _, false, false, by omega, rfl, rfl, by go_num, by first | exact rfl | (rw [World.drewN_drewN, World.drewN_drewN]), HU', HD'⟩, by simp [intOf]; omega⟩
      · exact ⟨⟨k + 1, _, false, g2, by omega, rfl, rfl, by go_num, by first | exact rfl | (rw [World.drewN_drewN, World.drewN_drewN]), HU', HD'⟩, by simp [intOf]; omega⟩
      · exact ⟨⟨k + 1, _, g1, false, by omega, rfl, rfl, by go_num, by first | exact rfl | (rw [World.drewN_drewN, World.drewN_drewN]), HU', HD'⟩, by simp [intOf]; omega⟩
      · exact ⟨⟨k + 1, _, g1, g2, by omega, rfl, rfl, by go_num, by first | exact rfl | (rw [World.drewN_drewN, World.drewN_drewN]), HU', HD'⟩, by simp [intOf]; omega⟩
    · have hge : ¬ (k : Int) + 1 < n := by omega
      obtain rfl : n = k + 1 := by omega
      have TQ : Hd (Tbl (w1.drewN q) ax X ay Y) := ⟨⟨T1.out.ix.heap rfl, T1.out.fy.heap rfl⟩⟩
      have UQ : Hd (BoxT (w1.drewN q) w.heap.size kind ax (k + 1) cx ay (k + 1) cy) := ⟨U1.out⟩
      have CQ := Hd.mk (below_drewN C1.out q)
      generalize w1.drewN q = wq at *
      obtain ⟨y0, y1, y2⟩ := UQ.out.cell
      clear z0 z1 z2 hlt T1 U1 C1
      go_wp2_with fail
      refine (HA.out _ TQ.out).mono ?_; rintro e w2 ⟨rfl, hb⟩
      have T2 := Hd.mk (TQ.out.belowK hb)
      have U2 := Hd.mk (UQ.out.below hb)
      have C2 := Hd.mk (CQ.out.trans (hb.mono CQ.out.size))
      clear hb y0 y1 y2
      obtain ⟨y0, y1, y2⟩ := U2.out.cell
      go_wp2_with fail
      refine (HB.out _ T2.out).mono ?_; rintro e w3 ⟨rfl, hb⟩
      have C3 := Hd.mk (C2.out.trans (hb.mono C2.out.size))
      clear hb y0 y1 y2 T2 U2 TQ UQ
      by_cases h1 : E1 = 0
      · by_cases h2 : E2 = 0
        · obtain ⟨⟨v1, v2⟩, ⟨v3, v4⟩, mu, md⟩ := HM.out h1 h2
          subst h1
          subst h2
          have P1 : u = true → (FloatKind.f64.format.order V1 V2 == some .lt || FloatKind.f64.format.order V1 V2 == some .eq) = true := fun h => leB V1 V2 v1 v3 v2 v4 true (by simpa using mu (HU.out h))
          have P2 : d = true → (FloatKind.f64.format.order V1 V2 == some .gt || FloatKind.f64.format.order V1 V2 == some .eq) = true := fun h => geB V1 V2 v1 v3 v2 v4 true (by simpa using md (HD.out h))
          clear mu md v1 v2 v3 v4 HM
          cases u
          · cases d
            · clear P1 P2
              go_wp2_with fail
              refine (awake10_any _).mono ?_; rintro e w4 ⟨rfl, hb⟩
              have C4 := Hd.mk (C3.out.trans (hb.mono C3.out.size))
              clear hb
              go_wp2_with fail
              go_ret
              exact ⟨rfl, C4.out⟩
            · have Q2 := P2 rfl
              clear P1 P2
              go_wp2_with fail
              refine (awake10_any _).mono ?_; rintro e w4 ⟨rfl, hb⟩
              have C4 := Hd.mk (C3.out.trans (hb.mono C3.out.size))
              clear hb
              go_wp2_with fail
              go_ret
              exact ⟨rfl, C4.out⟩
          · have Q1 := P1 rfl
            cases d
            · clear P1 P2
              go_wp2_with fail
              refine (awake10_any _).mono ?_; rintro e w4 ⟨rfl, hb⟩
              have C4 := Hd.mk (C3.out.trans (hb.mono C3.out.size))
              clear hb
              go_wp2_with fail
              go_ret
              exact ⟨rfl, C4.out⟩
            · have Q2 := P2 rfl
              clear P1 P2
              go_wp2_with fail
              refine (awake10_any _).mono ?_; rintro e w4 ⟨rfl, hb⟩
              have C4 := Hd.mk (C3.out.trans (hb.mono C3.out.size))
              clear hb
              go_wp2_with fail
              go_ret
              exact ⟨rfl, C4.out⟩
        · have f1 : (E1 != 0) = false := by simpa using h1
          have f2 : (E2 != 0) = true := by rw [bne_iff_ne]; exact h2
          clear h1 h2 HM
          go_wp2_with fail
          refine (awake10_any _).mono ?_; rintro e w4 ⟨rfl, hb⟩
          have C4 := Hd.mk (C3.out.trans (hb.mono C3.out.size))
          clear hb
          go_wp2_with fail
          go_ret
          exact ⟨rfl, C4.out⟩
      · have f1 : (E1 != 0) = true := by rw [bne_iff_ne]; exact h1
        clear h1 HM
        go_wp2_with fail
        refine (awake10_any _).mono ?_; rintro e w4 ⟨rfl, hb⟩
        have C4 := Hd.mk (C3.out.trans (hb.mono C3.out.size))
        clear hb
        go_wp2_with fail
        go_ret
        exact ⟨rfl, C4.out⟩

end Go.Proofs.Ytmmcnjoeepgpgaa
