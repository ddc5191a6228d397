/- AccOrder's walk. -/
import Derived.Test.YtpegicgahbambaaKxC
import Derived.Test.YtpegicgahbambaaM1
namespace Go.Proofs.Ytpegicgahbambaa
open Go.RowKit
set_option linter.unusedSimpArgs false
set_option linter.unusedVariables false

theorem F64_overA (z : Int) (up dn : Bool) (n : Nat) : F64 (overA z up dn n) := by
  unfold overA
  split
  · exact ⟨by decide⟩
  · split
    · exact ⟨by decide⟩
    · split
      · exact ⟨by decide⟩
      · unfold nearZ madeN
        have := Nat.min_le_right (rnd (z.natAbs / n) (-2148) (nz (z.natAbs % n))) 9218868437227405312
        split
        · exact ⟨by omega⟩
        · exact ⟨by omega⟩

set_option maxHeartbeats 800000 in
theorem ieeeSame_any (x : Nat) (hx : F64 x) (w : World) :
    Calls Try.prog 40 #[.float .f64 x, .float .f64 x] w fun e w' => e = .returned (.bool true) ∧ w = w' := by
  have hs : same x x = true := by unfold same; simp
  have HR := Hd.mk (rSame_any x x hx hx)
  rw [hs] at HR
  clear hs
  go_enter Try.func40, Try.ntmps40
  go_wp2_with fail
  refine (apiBits_any _ _).mono ?_; rintro en w' ⟨rfl, rfl⟩
  go_wp2_with fail
  refine (apiBits_any _ _).mono ?_; rintro en w' ⟨rfl, rfl⟩
  go_wp2_with fail
  refine (HR.out _).mono ?_; rintro en w' ⟨rfl, rfl⟩
  go_wp2_with fail
  go_ret
  exact ⟨rfl, rfl⟩

theorem asame_self (z : Int) (u d : Bool) : asame z u d z u d = true := by unfold asame; simp

set_option maxHeartbeats 3200000 in
set_option maxRecDepth 100000 in
theorem accOrder_any (a : Option Addr) (l : List Nat) (c : Nat) (a' : Option Addr) (by_ : List Int) (c' : Nat) (cut : Int) (w : World) (hl : Fls w a l) (hr : Room a l.length c) (hy : Ins w a' by_) (hr' : Room a' by_.length c') (hcut : (Lit.int .i64 cut).wf = true) :
    Calls Try.prog 9 #[.slice a l.length c, .slice a' by_.length c', .int .i64 cut] w fun e w' => e = .returned (.bool true) ∧ Below w.heap.size w w' := by
  have HL := Hd.mk hl
  have hlen := hl.len
  have HSh := Hd.mk fun h => shuffled_any a l c a' by_ c' w hl hy hr.nil h
  obtain ⟨n, hn⟩ : ∃ n, l.length = n := ⟨_, rfl⟩
  obtain ⟨ny, hny⟩ : ∃ n, by_.length = n := ⟨_, rfl⟩
  rw [hn] at hlen ⊢ HSh
  rw [hny] at HSh ⊢
  have HN := Hd.mk hn
  clear hl hr hr' hcut hy hn hny
  go_enter Try.func9, Try.ntmps9
  by_cases hc1 : 200 < n
  · have hd : decide ((n : Int) > 200) = true := by simp; omega
    go_wp2_with fail
    refine (awake3_any _).mono ?_; rintro e w3 ⟨rfl, hb⟩
    have B3 := Hd.mk hb
    clear hb
    go_wp2_with fail
    go_ret
    exact ⟨rfl, B3.out⟩
  have hd1 : decide ((n : Int) > 200) = false := by simp; omega
  have hn1 : n ≤ 200 := by omega
  have hn1' : (n : Int) ≤ 200 := by omega
  clear hc1
  go_wp2_with fail
  refine (HSh.out (by omega)).mono ?_; rintro e w1 ⟨a2, c2, m, rfl, hp, hm, hb⟩
  have HML := Hd.mk (hp.length_eq.trans HN.out)
  have HP := Hd.mk (zS_perm hp)
  have HM := Hd.mk hm
  have HL1 := Hd.mk (HL.out.belowK hb)
  have B0 := Hd.mk hb
  have HZ := Hd.mk (zS_accB HL.out (by rw [HN.out]; omega))
  rw [HN.out]
  clear hp hm hb HSh HL
  go_wp2_with fail
  refine (new_any _).mono ?_; rintro e w2 ⟨b1, rfl, hb1, hacc, hb⟩
  have A1 := Hd.mk hacc
  have B1 := Hd.mk hb
  have L1 := Hd.mk hb1
  clear hacc hb hb1
  go_wp2_with fail
  refine (new_any _).mono ?_; rintro e w3 ⟨b2, rfl, hb2, hacc, hb⟩
  have A1' := Hd.mk (A1.out.below hb)
  have A2 := Hd.mk hacc
  have B2 := Hd.mk (B1.out.trans (hb.mono B1.out.size))
  have L2 := Hd.mk (Nat.le_trans B1.out.size hb2)
  have L12 := Hd.mk (show b1 ≠ b2 from fun e => by have := A1.out.lt; omega)
  clear hacc hb hb2 A1 B1
  go_wp2_with fail
  refine (new_any _).mono ?_; rintro e w4 ⟨b3, rfl, hb3, hacc, hb⟩
  have A1 := Hd.mk (A1'.out.below hb)
  have A2' := Hd.mk (A2.out.below hb)
  have A3 := Hd.mk hacc
  have B3 := Hd.mk (B2.out.trans (hb.mono B2.out.size))
  have L3 := Hd.mk (Nat.le_trans B2.out.size hb3)
  have L13 := Hd.mk (show b1 ≠ b3 from fun e => by have := A1'.out.lt; omega)
  have L23 := Hd.mk (show b2 ≠ b3 from fun e => by have := A2.out.lt; omega)
  clear hacc hb hb3 A1' A2 B2
  go_wp2_with fail
  go_loopw [11] (fun iv wr => ∃ (k : Nat), k ≤ n ∧ iv = .int .i64 k ∧ Hd (AccIs wr b1 (zS (l.take k)) (uS (l.take k)) (dS (l.take k))) ∧ Hd (AccIs wr b2 0 false false) ∧ Hd (AccIs wr b3 0 false false) ∧ Hd (Below w1.heap.size w1 wr)) (fun iv _ => n - (intOf iv).toNat)
  case atStart => exact ⟨0, Nat.zero_le _, rfl, A1, A2', A3, B3⟩
  case round =>
    clear A1 A2' A3 B3
    obtain ⟨k, hk, rfl, HA1, HA2, HA3, HB⟩ := hrel
    by_cases hlt : k < n
    · obtain ⟨b, o, ha, hc⟩ := (HL1.out.belowK HB.out).at k (by rw [HN.out]; exact hlt)
      subst ha
      have hlt' : (k : Int) < n := by omega
      have HS := Hd.mk (zS_take l k (by rw [HN.out]; exact hlt))
      have HAd := Hd.mk (accAdd_any b1 _ _ _ (l.getD k 0) wr HA1.out (HL1.out.wf k))
      rw [← HS.out.1, ← HS.out.2.1, ← HS.out.2.2] at HAd
      have k0 : (0 : Int) ≤ k := by omega
      generalize l.getD k 0 = x at *
      clear hlt
      go_wp2_with fail
      refine (HAd.out).mono ?_; rintro e w5 ⟨rfl, hacc, ho⟩
      have HA1' := Hd.mk hacc
      have HA2' := Hd.mk (HA2.out.only ho (Ne.symm L12.out))
      have HA3' := Hd.mk (HA3.out.only ho (Ne.symm L13.out))
      have HB2 := Hd.mk (Only.below HB.out L1.out ho HB.out.size)
      clear hacc ho
      go_wp2_with fail
      exact ⟨⟨k + 1, by omega, by go_num, HA1', HA2', HA3', HB2⟩, by simp [intOf]; omega⟩
    · have hge : (n : Int) ≤ k := by omega
      have he : Hd (l.take k = l) := ⟨List.take_of_length_le (by rw [HN.out]; omega)⟩
      rw [he.out] at HA1
      have hd4 : decide (k < n) = false := by simp; omega
      clear hlt he
      go_wp2_with fail
      clear hge hk hd4
      go_loopw [12] (fun iv wr => ∃ (k : Nat) (z2 : Int) (u2 d2 : Bool) (z3 : Int) (u3 d3 : Bool), k ≤ n ∧ iv = .int .i64 k ∧ Hd (AccIs wr b1 (zS l) (uS l) (dS l)) ∧ Hd (AccIs wr b2 z2 u2 d2) ∧ Hd (AccIs wr b3 z3 u3 d3) ∧ Hd (z2 + z3 = zS (m.take k)) ∧ Hd ((u2 || u3) = uS (m.take k)) ∧ Hd ((d2 || d3) = dS (m.take k)) ∧ Hd (Below w1.heap.size w1 wr)) (fun iv _ => n - (intOf iv).toNat)
      case atStart => exact ⟨0, 0, false, false, 0, false, false, Nat.zero_le _, rfl, HA1, HA2, HA3, ⟨rfl⟩, ⟨rfl⟩, ⟨rfl⟩, HB⟩
      case round =>
        clear HA1 HA2 HA3 HB
        obtain ⟨k, z2, u2, d2, z3, u3, d3, hk, rfl, HA1, HA2, HA3, HQ1, HQ2, HQ3, HB⟩ := hrel
        have HQ : Hd (_ ∧ _ ∧ _) := ⟨HQ1.out, HQ2.out, HQ3.out⟩
        by_cases hlt : k < n
        · obtain ⟨b, o, ha, hc⟩ := (HM.out.belowK HB.out).at k (by rw [HML.out]; exact hlt)
          subst ha
          have hlt' : (k : Int) < n := by omega
          have HS := Hd.mk (zS_take m k (by rw [HML.out]; exact hlt))
          have HX := Hd.mk (HM.out.wf k)
          have k0 : (0 : Int) ≤ k := by omega
          have k2 : (k : Int) ≤ 200 := by omega
          generalize m.getD k 0 = x at *
          obtain ⟨V, hV⟩ : ∃ V, IntKind.i64.wrap ((k : Int) * 7 + cut) = V := ⟨_, rfl⟩
          clear hlt HQ1 HQ2 HQ3
          cases hB : (V.tmod 3 == 0)
          · have hB3 : ¬ V.tmod 3 = 0 := by simpa using hB
            have HAd := Hd.mk (accAdd_any b2 _ _ _ x wr HA2.out HX.out)
            go_wp2_with fail
            refine (HAd.out).mono ?_; rintro e w5 ⟨rfl, hacc, ho⟩
            have HA := Hd.mk hacc
            have H1' := Hd.mk (HA1.out.only ho L12.out)
            have H3' := Hd.mk (HA3.out.only ho (Ne.symm L23.out))
            have HB2 := Hd.mk (Only.below HB.out L2.out ho HB.out.size)
            clear hacc ho hB hB3
            go_wp2_with fail
            exact ⟨⟨k + 1, _, _, _, z3, u3, d3, by omega, by go_num, H1', HA, H3', ⟨by rw [HS.out.1, ← HQ.out.1]; omega⟩, ⟨by rw [HS.out.2.1, ← HQ.out.2.1]; cases u2 <;> cases u3 <;> simp⟩, ⟨by rw [HS.out.2.2, ← HQ.out.2.2]; cases d2 <;> cases d3 <;> simp⟩, HB2⟩, by simp [intOf]; omega⟩
          · have hB3 : V.tmod 3 = 0 := by simpa using hB
            have HAd := Hd.mk (accAdd_any b3 _ _ _ x wr HA3.out HX.out)
            go_wp2_with fail
            refine (HAd.out).mono ?_; rintro e w5 ⟨rfl, hacc, ho⟩
            have HA := Hd.mk hacc
            have H1' := Hd.mk (HA1.out.only ho L13.out)
            have H2' := Hd.mk (HA2.out.only ho L23.out)
            have HB2 := Hd.mk (Only.below HB.out L3.out ho HB.out.size)
            clear hacc ho hB hB3
            go_wp2_with fail
            exact ⟨⟨k + 1, z2, u2, d2, _, _, _, by omega, by go_num, H1', H2', HA, ⟨by rw [HS.out.1, ← HQ.out.1]; omega⟩, ⟨by rw [HS.out.2.1, ← HQ.out.2.1, Bool.or_assoc]⟩, ⟨by rw [HS.out.2.2, ← HQ.out.2.2, Bool.or_assoc]⟩, HB2⟩, by simp [intOf]; omega⟩
        · have hge : (n : Int) ≤ k := by omega
          have he : Hd (m.take k = m) := ⟨List.take_of_length_le (by rw [HML.out]; omega)⟩
          rw [he.out, HP.out.1] at HQ1
          rw [he.out, HP.out.2.1] at HQ2
          rw [he.out, HP.out.2.2] at HQ3
          clear hlt he
          have HSm := Hd.mk fun w' h => sum_any a2 m c2 w' h (zS_accB HM.out (by rw [HML.out]; omega))
          rw [HP.out.1, HP.out.2.1, HP.out.2.2, HML.out] at HSm
          have HSl := Hd.mk fun w' h => sum_any a l c w' h HZ.out
          rw [HN.out] at HSl
          have hs := asame_self (zS l) (uS l) (dS l)
          have hF := Hd.mk (F64_overA (zS l) (uS l) (dS l) 1)
          have HV := Hd.mk fun w' h => value_any b1 (zS l) (uS l) (dS l) w' h HZ.out
          go_wp2_with fail
          refine (merge_any b2 z2 u2 d2 b3 z3 u3 d3 _ HA2.out HA3.out).mono ?_; rintro e w5 ⟨rfl, hacc, ho⟩
          rw [HQ1.out, HQ2.out, HQ3.out] at hacc
          have C2 := Hd.mk hacc
          have C1 := Hd.mk (HA1.out.only ho L12.out)
          have BB := Hd.mk (Only.below HB.out L2.out ho HB.out.size)
          clear hacc ho HQ1 HQ2 HQ3 HA1 HA2 HA3 HB
          go_wp2_with fail
          refine (same_any b1 _ _ _ b2 _ _ _ _ C1.out C2.out HZ.out HZ.out).mono ?_; rintro e w' ⟨rfl, m1, rfl⟩
          rw [hs]
          go_wp2_with fail
          refine (same_any b2 _ _ _ b1 _ _ _ _ (C2.out.drewN _) (C1.out.drewN _) HZ.out HZ.out).mono ?_; rintro e w' ⟨rfl, m2, rfl⟩
          rw [hs]
          have BC := Hd.mk (below_drewN (below_drewN BB.out m1) m2)
          have D1 := Hd.mk ((C1.out.drewN m1).drewN m2)
          clear C1 C2 BB
          generalize (w5.drewN m1).drewN m2 = w6 at *
          go_wp2_with fail
          refine (HSl.out _ (HL1.out.belowK BC.out)).mono ?_; rintro e w7 ⟨rfl, hb⟩
          have D2 := Hd.mk (D1.out.below hb)
          have BD := Hd.mk (BC.out.trans (hb.mono BC.out.size))
          clear hb D1 BC
          go_wp2_with fail
          refine (HSm.out _ (HM.out.belowK BD.out)).mono ?_; rintro e w8 ⟨rfl, hb⟩
          have D3 := Hd.mk (D2.out.below hb)
          have BE := Hd.mk (BD.out.trans (hb.mono BD.out.size))
          clear hb D2 BD
          go_wp2_with fail
          refine (ieeeSame_any _ hF.out _).mono ?_; rintro e w' ⟨rfl, rfl⟩
          go_wp2_with fail
          refine (HV.out _ D3.out).mono ?_; rintro e w9 ⟨rfl, hb⟩
          have BF := Hd.mk (BE.out.trans (hb.mono BE.out.size))
          clear hb D3 BE
          go_wp2_with fail
          refine (HSm.out _ (HM.out.belowK BF.out)).mono ?_; rintro e w10 ⟨rfl, hb⟩
          have BG := Hd.mk (BF.out.trans (hb.mono BF.out.size))
          clear hb BF
          go_wp2_with fail
          refine (ieeeSame_any _ hF.out _).mono ?_; rintro e w' ⟨rfl, rfl⟩
          go_wp2_with fail
          refine (awake3_any _).mono ?_; rintro e w11 ⟨rfl, hb⟩
          have BH := Hd.mk (B0.out.trans ((BG.out.trans (hb.mono BG.out.size)).mono B0.out.size))
          clear hb BG
          go_wp2_with fail
          go_ret
          exact ⟨rfl, BH.out⟩

end Go.Proofs.Ytpegicgahbambaa
