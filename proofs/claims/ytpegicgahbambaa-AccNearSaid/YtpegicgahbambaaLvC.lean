/- AccNear's walk. -/
import Derived.Test.YtpegicgahbambaaLxC
namespace Go.Proofs.Ytpegicgahbambaa
open Go.RowKit
set_option linter.unusedSimpArgs false
set_option linter.unusedVariables false

theorem asgn_le (t : Int) (h : t ≤ 0) : asgn t false false ≤ 0 := by
  unfold asgn
  simp only [Bool.false_and, Bool.false_eq_true, if_false]
  split
  · omega
  · rw [if_pos (by omega)]; omega
theorem asgn_ge (t : Int) (h : 0 ≤ t) : 0 ≤ asgn t false false := by
  unfold asgn
  simp only [Bool.false_and, Bool.false_eq_true, if_false]
  rw [if_neg (by omega)]
  split <;> omega
theorem aZ_VR (x : Nat) (h : fin x = true) : aZ x = VR (rk x) := by unfold aZ; rw [h, if_pos rfl, SV_VR]
theorem atk_INF : atk 9218868437227405312 = 9218868437227405312 ∧ atk (-9218868437227405312) = 18442240474082181120 := by decide +kernel

/-- What the law asks of a Value. -/
theorem near_sides (b : Nat) (z : Int) (k : Nat) (v : Nat) (hz : Bd k z) (hk : k ≤ 400) (hv : F64 v) (fv : fin v = true) (hr : rk v = rz (-2148) z) :
    ∃ R1 R2 : Int, R1 ≤ 0 ∧ 0 ≤ R2 ∧ -2 ≤ R1 ∧ R2 ≤ 2 ∧
      (∀ w, AccIs w b z false false → Calls Try.prog 45 #[.pointer (some ⟨b, 0, none⟩), .float .f64 v, .float .f64 (atk (rk v + 1))] w fun e w' => e = .returned (.int .i64 R1) ∧ Below w.heap.size w w') ∧
      (∀ w, AccIs w b z false false → Calls Try.prog 45 #[.pointer (some ⟨b, 0, none⟩), .float .f64 v, .float .f64 (atk (rk v - 1))] w fun e w' => e = .returned (.int .i64 R2) ∧ Below w.heap.size w w') := by
  have hf := (rk_fin v).1 fv
  have hm := near_mid z (by omega) (by omega)
  rw [← hr] at hm
  have ha : ∀ t, asgn t false false = -1 ∨ asgn t false false = 0 ∨ asgn t false false = 1 := fun t => by
    unfold asgn
    simp only [Bool.false_and, Bool.false_eq_true, if_false]
    split
    · exact .inl rfl
    · split
      · exact .inr (.inl rfl)
      · exact .inr (.inr rfl)
  have up : ∃ R1 : Int, R1 ≤ 0 ∧ -2 ≤ R1 ∧ (∀ w, AccIs w b z false false → Calls Try.prog 45 #[.pointer (some ⟨b, 0, none⟩), .float .f64 v, .float .f64 (atk (rk v + 1))] w fun e w' => e = .returned (.int .i64 R1) ∧ Below w.heap.size w w') := by
    by_cases h : rk v + 1 = 9218868437227405312
    · refine ⟨-1, by decide, by decide, fun w _ => ?_⟩
      rw [h, atk_INF.1]
      refine (aside_inf b v _ w (.inl rfl)).mono ?_
      rintro e w' ⟨rfl, m, rfl⟩
      exact ⟨rfl, below_drewN (Below.refl _ _) _⟩
    · have h1 := rk_atk (rk v + 1) (by omega) (by omega)
      have f1 : fin (atk (rk v + 1)) = true := (rk_fin _).2 (by rw [h1]; omega)
      refine ⟨_, asgn_le (z + z + -aZ v + -aZ (atk (rk v + 1))) ?_, ?_, fun w hw => aside_num b z k v _ w hw hz hk hv (atk_F64 _ (by omega) (by omega)) fv f1⟩
      · rw [aZ_VR v fv, aZ_VR _ f1, h1]; omega
      · have := ha (z + z + -aZ v + -aZ (atk (rk v + 1))); omega
  have dn : ∃ R2 : Int, 0 ≤ R2 ∧ R2 ≤ 2 ∧ (∀ w, AccIs w b z false false → Calls Try.prog 45 #[.pointer (some ⟨b, 0, none⟩), .float .f64 v, .float .f64 (atk (rk v - 1))] w fun e w' => e = .returned (.int .i64 R2) ∧ Below w.heap.size w w') := by
    by_cases h : rk v - 1 = -9218868437227405312
    · refine ⟨1, by decide, by decide, fun w _ => ?_⟩
      rw [h, atk_INF.2]
      refine (aside_inf b v _ w (.inr rfl)).mono ?_
      rintro e w' ⟨rfl, m, rfl⟩
      exact ⟨rfl, below_drewN (Below.refl _ _) _⟩
    · have h1 := rk_atk (rk v - 1) (by omega) (by omega)
      have f1 : fin (atk (rk v - 1)) = true := (rk_fin _).2 (by rw [h1]; omega)
      refine ⟨_, asgn_ge (z + z + -aZ v + -aZ (atk (rk v - 1))) ?_, ?_, fun w hw => aside_num b z k v _ w hw hz hk hv (atk_F64 _ (by omega) (by omega)) fv f1⟩
      · rw [aZ_VR v fv, aZ_VR _ f1, h1]; omega
      · have := ha (z + z + -aZ v + -aZ (atk (rk v - 1))); omega
  obtain ⟨R1, u1, u2, u3⟩ := up
  obtain ⟨R2, d1, d2, d3⟩ := dn
  exact ⟨R1, R2, u1, d1, u2, d2, u3, d3⟩

set_option maxHeartbeats 3200000 in
set_option maxRecDepth 100000 in
theorem accNearLaw_any (a : Option Addr) (l : List Nat) (c : Nat) (w : World) (hl : Fls w a l) :
    Calls Try.prog 10 #[.slice a l.length c] w fun e w' => e = .returned (.bool true) ∧ Below w.heap.size w w' := by
  have HL := Hd.mk hl
  have hlen := hl.len
  obtain ⟨n, hn⟩ : ∃ n, l.length = n := ⟨_, rfl⟩
  rw [hn] at hlen ⊢
  have HN := Hd.mk hn
  clear hl hn
  go_enter Try.func10, Try.ntmps10
  go_wp2_with fail
  refine (new_any _).mono ?_; rintro e w1 ⟨b1, rfl, hb1, hacc, hb⟩
  have A1 := Hd.mk hacc
  have B1 := Hd.mk hb
  have L1 := Hd.mk hb1
  clear hacc hb hb1
  have HDn : Hd (∀ wr, Below w.heap.size w wr → Calls Try.prog 22 #[] wr fun e w' => e = .returned (.bool true) ∧ Below w.heap.size w w') := ⟨fun wr hb => (awake3_any wr).mono fun e w' ⟨h1, h2⟩ => ⟨h1, hb.trans (h2.mono hb.size)⟩⟩
  by_cases hc1 : 200 < n
  · have hd : decide ((n : Int) > 200) = true := by simp; omega
    go_wp2_with fail
    refine (HDn.out _ B1.out).mono ?_; rintro e w3 ⟨rfl, hb⟩
    have B3 := Hd.mk hb
    clear hb
    go_wp2_with fail
    go_ret
    exact ⟨rfl, B3.out⟩
  have hd1 : decide ((n : Int) > 200) = false := by simp; omega
  have hn1 : n ≤ 200 := by omega
  clear hc1
  go_wp2_with fail
  go_loopw [4] (fun iv wr => ∃ (k : Nat) (Z : Int), k ≤ n ∧ iv = .int .i64 k ∧ Hd (AccIs wr b1 Z false false) ∧ Hd (Bd k Z) ∧ Hd (Below w.heap.size w wr)) (fun iv _ => n - (intOf iv).toNat)
  case atStart => exact ⟨0, 0, Nat.zero_le _, rfl, A1, ⟨Bd.zero _⟩, B1⟩
  case round =>
    clear A1 B1
    obtain ⟨k, Z, hk, rfl, HA, HZ, HB⟩ := hrel
    by_cases hlt : k < n
    · obtain ⟨b, o, ha, hc⟩ := (HL.out.belowK HB.out).at k (by rw [HN.out]; exact hlt)
      subst ha
      have hlt' : (k : Int) < n := by omega
      have HX := Hd.mk (HL.out.wf k)
      have k0 : (0 : Int) ≤ k := by omega
      generalize l.getD k 0 = x at *
      have HT : Hd (∀ w, (FloatKind.f64.format.order (fres .sub x x w) 0 != some .eq) = !fin x) := ⟨ksub_ne x HX.out⟩
      have H1 := Hd.mk (show k + 1 ≤ n ∧ n - (k + 1) < n - k by omega)
      cases hfx : fin x <;> rw [hfx] at HT
      · have ht := HT.out
        clear hlt
        go_upto_region 7 with fail
        go_region
        go_wp2_with fail
        refine (HDn.out _ (below_drewN HB.out _)).mono ?_; rintro e w3 ⟨rfl, hb⟩
        have B3 := Hd.mk hb
        clear hb
        go_wp2_with fail
        go_ret
        exact ⟨rfl, B3.out⟩
      · have ht := HT.out
        clear hlt
        have fx := flagB_fin x hfx
        have HAd := Hd.mk fun w' h => accAdd_any b1 Z false false x w' h HX.out
        rw [fx.1, fx.2] at HAd
        clear fx
        go_upto_region 7 with fail
        go_region
        go_wp2_with fail
        refine (HAd.out _ (HA.out.drewN _)).mono ?_; rintro e w3 ⟨rfl, hacc, ho⟩
        have HA3 := Hd.mk hacc
        have HB3 := Hd.mk (Only.below (below_drewN HB.out _) L1.out ho HB.out.size)
        have HZ3 := Hd.mk (HZ.out.add (Bd.aZ HX.out))
        clear hacc ho
        go_wp2_with fail
        exact ⟨⟨k + 1, _, H1.out.1, by go_num, HA3, HZ3, HB3⟩, by simp [intOf]; exact H1.out.2⟩
    · have hge : (n : Int) ≤ k := by omega
      have HZB := Hd.mk (HZ.out.accB (small_bd _ (by omega)))
      have hV := rk_overA Z
      have hN := nn_overA Z 1
      have hF := F64_overA Z false false 1
      have HVa := Hd.mk fun w' h => value_any b1 Z false false w' h HZB.out
      have HOv := Hd.mk fun w' h => over_any b1 Z false false 1 (by decide) (by decide) w' h HZB.out
      have HK := Hd.mk (show k ≤ 400 by omega)
      clear hlt
      generalize overA Z false false 1 = v at *
      have HT : Hd (∀ w, (FloatKind.f64.format.order (fres .sub v v w) 0 != some .eq) = !fin v) := ⟨ksub_ne v hF⟩
      cases hfv : fin v <;> rw [hfv] at HT
      · have ht := HT.out
        clear hV hN hF
        go_wp2_with fail
        refine (HVa.out _ HA.out).mono ?_; rintro e w3 ⟨rfl, hb⟩
        have A3 := Hd.mk (HA.out.below hb)
        have B3 := Hd.mk (HB.out.trans (hb.mono HB.out.size))
        clear hb HA HB
        go_wp2_with fail
        refine (HOv.out _ A3.out).mono ?_; rintro e w4 ⟨rfl, hb⟩
        have B4 := Hd.mk (B3.out.trans (hb.mono B3.out.size))
        clear hb A3 B3
        go_wp2_with fail
        refine (apiBits_any _ _).mono ?_; rintro en w' ⟨rfl, rfl⟩
        go_wp2_with fail
        refine (apiBits_any _ _).mono ?_; rintro en w' ⟨rfl, rfl⟩
        go_wp2_with fail
        refine (apiBits_any _ _).mono ?_; rintro en w' ⟨rfl, rfl⟩
        go_wp2_with fail
        refine (apiBits_any _ _).mono ?_; rintro en w' ⟨rfl, rfl⟩
        go_wp2_with fail
        refine (HDn.out _ (below_drewN B4.out _)).mono ?_; rintro e w5 ⟨rfl, hb⟩
        have B5 := Hd.mk hb
        clear hb
        go_wp2_with fail
        go_ret
        exact ⟨rfl, B5.out⟩
      · have ht := HT.out
        obtain ⟨R1, R2, q1, q2, q3, q4, HU, HD⟩ := near_sides b1 Z k v HZ.out HK.out hF hfv hV
        have HU := Hd.mk HU
        have HD := Hd.mk HD
        have hb := (rk_fin v).1 hfv
        have HRk := Hd.mk (krank_any v hF hN)
        have HAu := Hd.mk (rAt_any (rk v + 1) (by omega) (by omega))
        have HAd := Hd.mk (rAt_any (rk v - 1) (by omega) (by omega))
        obtain ⟨r1, r2⟩ := hb
        clear hV hN hF
        generalize rk v = r at *
        generalize atk (r + 1) = up at *
        generalize atk (r - 1) = dn at *
        go_wp2_with fail
        refine (HVa.out _ HA.out).mono ?_; rintro e w3 ⟨rfl, hb⟩
        have A3 := Hd.mk (HA.out.below hb)
        have B3 := Hd.mk (HB.out.trans (hb.mono HB.out.size))
        clear hb HA HB
        go_wp2_with fail
        refine (HOv.out _ A3.out).mono ?_; rintro e w4 ⟨rfl, hb⟩
        have A4 := Hd.mk (A3.out.below hb)
        have B4 := Hd.mk (B3.out.trans (hb.mono B3.out.size))
        clear hb A3 B3
        go_wp2_with fail
        refine (apiBits_any _ _).mono ?_; rintro en w' ⟨rfl, rfl⟩
        go_wp2_with fail
        refine (apiBits_any _ _).mono ?_; rintro en w' ⟨rfl, rfl⟩
        go_wp2_with fail
        refine (HRk.out _).mono ?_; rintro en w' ⟨rfl, rfl⟩
        go_wp2_with fail
        refine (HAu.out _).mono ?_; rintro en w' ⟨rfl, rfl⟩
        go_wp2_with fail
        refine (HRk.out _).mono ?_; rintro en w' ⟨rfl, rfl⟩
        go_wp2_with fail
        refine (HAd.out _).mono ?_; rintro en w' ⟨rfl, rfl⟩
        go_wp2_with fail
        refine (apiFloat_any _ _).mono ?_; rintro en w' ⟨rfl, rfl⟩
        go_wp2_with fail
        refine (HU.out _ (A4.out.drewN _)).mono ?_; rintro e w5 ⟨rfl, hb⟩
        have A5 := Hd.mk ((A4.out.drewN (fcnt .sub v v)).below hb)
        have B5 := Hd.mk ((below_drewN B4.out (fcnt .sub v v)).trans (hb.mono B4.out.size))
        clear hb A4 B4
        go_wp2_with fail
        refine (apiFloat_any _ _).mono ?_; rintro en w' ⟨rfl, rfl⟩
        go_wp2_with fail
        refine (HD.out _ A5.out).mono ?_; rintro e w6 ⟨rfl, hb⟩
        have B6 := Hd.mk (B5.out.trans (hb.mono B5.out.size))
        clear hb A5 B5
        go_wp2_with fail
        refine (HDn.out _ B6.out).mono ?_; rintro e w7 ⟨rfl, hb⟩
        have B7 := Hd.mk hb
        clear hb
        go_wp2_with fail
        go_ret
        exact ⟨rfl, B7.out⟩

end Go.Proofs.Ytpegicgahbambaa
