/- AccGone's walk. -/
import Derived.Test.YtpegicgahbambaaM10
import Derived.Test.YtpegicgahbambaaM9
import Derived.BigQuiet
namespace Go.Proofs.Ytpegicgahbambaa
open Go.RowKit
set_option linter.unusedSimpArgs false
set_option linter.unusedVariables false

theorem ksub_eq (x : Nat) (hx : F64 x) (w : World) : (FloatKind.f64.format.order (fres .sub x x w) 0 == some .eq) = fin x := by
  have h : cn (fres .sub x x w) = if fin x then 0 else NaNc := by rw [cn_fsub _ _ _ hx hx]; exact fsub_self x hx
  cases c : fin x
  · rw [c] at h
    have hn : nn (fres .sub x x w) = true := by rw [← nn_cn, h]; decide +kernel
    rw [feq _ 0 (F64_fres .sub x x w) F64_0, hn]; rfl
  · rw [c] at h
    have e : fres .sub x x w = 0 := of_cn (h.trans (if_pos rfl)) (by decide +kernel)
    rw [e]; decide +kernel
theorem ksub_ne (x : Nat) (hx : F64 x) (w : World) : (FloatKind.f64.format.order (fres .sub x x w) 0 != some .eq) = !fin x := by
  rw [bne, ksub_eq x hx w]

theorem small_bd (n : Nat) (h : n ≤ 1000) : n ≤ 2 ^ 150 :=
  Nat.le_trans h (Nat.le_trans (show 1000 ≤ 2 ^ 10 by decide) (Nat.pow_le_pow_right (by decide) (by decide)))

set_option maxHeartbeats 3200000 in
set_option maxRecDepth 100000 in
theorem accGone_any (a : Option Addr) (l : List Nat) (c : Nat) (a' : Option Addr) (m : List Nat) (c' : Nat) (w : World) (hl : Fls w a l) (hm : Fls w a' m) :
    Calls Try.prog 12 #[.slice a l.length c, .slice a' m.length c'] w fun e w' => e = .returned (.bool true) ∧ Below w.heap.size w w' := by
  have HL := Hd.mk hl
  have HM := Hd.mk hm
  have hlen := hl.len
  have hlen' := hm.len
  obtain ⟨n, hn⟩ : ∃ n, l.length = n := ⟨_, rfl⟩
  obtain ⟨n', hn'⟩ : ∃ n, m.length = n := ⟨_, rfl⟩
  rw [hn] at hlen ⊢
  rw [hn'] at hlen' ⊢
  have HN := Hd.mk hn
  have HN' := Hd.mk hn'
  clear hl hm hn hn'
  go_enter Try.func12, Try.ntmps12
  go_wp2_with fail
  refine (new_any _).mono ?_; rintro e w1 ⟨b1, rfl, hb1, hacc, hb⟩
  have A1 := Hd.mk hacc
  have B1 := Hd.mk hb
  have L1 := Hd.mk hb1
  clear hacc hb hb1
  go_wp2_with fail
  refine (new_any _).mono ?_; rintro e w2 ⟨b2, rfl, hb2, hacc, hb⟩
  have A1' := Hd.mk (A1.out.below hb)
  have A2 := Hd.mk hacc
  have B2 := Hd.mk (B1.out.trans (hb.mono B1.out.size))
  have L2 := Hd.mk (Nat.le_trans B1.out.size hb2)
  have L12 := Hd.mk (show b1 ≠ b2 from fun e => by have := A1.out.lt; omega)
  clear hacc hb hb2 A1 B1
  have done : ∀ wr, Below w.heap.size w wr → Calls Try.prog 22 #[] wr fun e w' => e = .returned (.bool true) ∧ Below w.heap.size w w' := fun wr hb => (awake3_any wr).mono fun e w' ⟨h1, h2⟩ => ⟨h1, hb.trans (h2.mono hb.size)⟩
  have HDn := Hd.mk done
  clear done
  by_cases hc1 : 200 < n
  · have hd : decide ((n : Int) > 200) = true := by simp; omega
    go_wp2_with fail
    refine (HDn.out _ B2.out).mono ?_; rintro e w3 ⟨rfl, hb⟩
    have B3 := Hd.mk hb
    clear hb
    go_wp2_with fail
    go_ret
    exact ⟨rfl, B3.out⟩
  have hd1 : decide ((n : Int) > 200) = false := by simp; omega
  by_cases hc2 : 200 < n'
  · have hd : decide ((n' : Int) > 200) = true := by simp; omega
    go_wp2_with fail
    refine (HDn.out _ B2.out).mono ?_; rintro e w3 ⟨rfl, hb⟩
    have B3 := Hd.mk hb
    clear hb
    go_wp2_with fail
    go_ret
    exact ⟨rfl, B3.out⟩
  have hd2 : decide ((n' : Int) > 200) = false := by simp; omega
  have hn1 : n ≤ 200 := by omega
  clear hc1 hc2
  go_wp2_with fail
  go_loopw [7] (fun iv wr => ∃ (k : Nat) (Z : Int), k ≤ n ∧ iv = .int .i64 k ∧ Hd (AccIs wr b1 Z false false) ∧ Hd (AccIs wr b2 0 false false) ∧ Hd (Bd (2 * k) Z) ∧ Hd (Below w.heap.size w wr)) (fun iv _ => n - (intOf iv).toNat)
  case atStart => exact ⟨0, 0, Nat.zero_le _, rfl, A1', A2, ⟨Bd.zero _⟩, B2⟩
  case round =>
    clear A1' A2 B2
    obtain ⟨k, Z, hk, rfl, HA, HA2, HZ, HB⟩ := hrel
    by_cases hlt : k < n
    · obtain ⟨b, o, ha, hc⟩ := (HL.out.belowK HB.out).at k (by rw [HN.out]; exact hlt)
      subst ha
      have hlt' : (k : Int) < n := by omega
      have HX := Hd.mk (HL.out.wf k)
      have k0 : (0 : Int) ≤ k := by omega
      obtain ⟨x, hxe⟩ : ∃ x, l.getD k 0 = x := ⟨_, rfl⟩
      have HXe := Hd.mk hxe
      rw [hxe] at HX hc
      clear hxe
      have HT : Hd (∀ w, (FloatKind.f64.format.order (fres .sub x x w) 0 != some .eq) = !fin x) := ⟨ksub_ne x HX.out⟩
      cases hfx : fin x <;> rw [hfx] at HT
      · have ht := HT.out
        clear hlt
        go_upto_region 8 with fail
        go_region
        go_wp2_with fail
        refine (HDn.out _ (below_drewN HB.out _)).mono ?_; rintro e w3 ⟨rfl, hb⟩
        have B3 := Hd.mk hb
        clear hb
        go_wp2_with fail
        go_ret
        exact ⟨rfl, B3.out⟩
      · have ht := HT.out
        clear hlt
        have fx := flagB_fin x hfx
        have HAd := Hd.mk fun w' h => accAdd_any b1 Z false false x w' h HX.out
        rw [fx.1, fx.2] at HAd
        clear fx
        go_upto_region 8 with fail
        go_region
        go_wp2_with fail
        refine (HAd.out _ (HA.out.drewN _)).mono ?_; rintro e w3 ⟨rfl, hacc, ho⟩
        have HA3 := Hd.mk hacc
        have HA3' := Hd.mk (AccIs.only (HA2.out.drewN _) ho (Ne.symm L12.out))
        have HB3 := Hd.mk (Only.below (below_drewN HB.out _) L1.out ho HB.out.size)
        have HZ3 := Hd.mk (HZ.out.add (Bd.aZ HX.out))
        clear hacc ho
        have H1 := Hd.mk (show k + 1 ≤ n ∧ n - (k + 1) < n - k by omega)
        have HW3 : w3.drew = w3.drew := rfl
        by_cases hkn : k < n'
        · have hd3 : decide (k < n') = true := by simp; omega
          have hkn' : (k : Int) < n' := by omega
          obtain ⟨b', o', ha', hc'⟩ := (HM.out.belowK HB3.out).at k (by rw [HN'.out]; exact hkn)
          subst ha'
          have HY := Hd.mk (HM.out.wf k)
          generalize m.getD k 0 = y at *
          have HTy : Hd (∀ w, (FloatKind.f64.format.order (fres .sub y y w) 0 == some .eq) = fin y) := ⟨ksub_eq y HY.out⟩
          have hc3 : w3.drew.cell? ⟨b', o' + k, none⟩ = some (.float .f64 y) := hc'
          obtain ⟨b5, o5, he, hx3⟩ := (HL.out.belowK HB3.out).at k (by rw [HN.out]; omega)
          obtain ⟨rfl, rfl⟩ : b = b5 ∧ o = o5 := by simpa using he
          rw [HXe.out] at hx3
          clear he
          clear hkn hc
          cases hfy : fin y <;> rw [hfy] at HTy
          · have ht2 := HTy.out
            go_upto_region 11 with fail
            refine wp_region_still_tail 13 (by kernel_rfl) (by kernel_rfl) ?_
            simp only [List.take_succ_cons, List.take_zero, List.drop_succ_cons, List.drop_zero]
            change wpStill _ _ w3.drew _ _ _
            iterate 13 still_step
            refine wpStill_nil ?_
            change wpList _ _ _ _ _ w3.drew
            go_wp2_with fail
            exact ⟨⟨k + 1, _, H1.out.1, by go_num, ⟨HA3.out.drewN _⟩, ⟨HA3'.out.drewN _⟩, ⟨HZ3.out.mono (by omega)⟩, ⟨below_drewN HB3.out _⟩⟩, by simp [intOf]; omega⟩
          · have ht2 := HTy.out
            have HPr := Hd.mk fun w' h => accProd_any b1 (Z + aZ x) false false x y w' h HX.out HY.out
            rw [show puB x y = false by unfold puB; rw [hfx, hfy]; rfl, show pdB x y = false by unfold pdB; rw [hfx, hfy]; rfl] at HPr
            have HZ4 := Hd.mk (HZ3.out.add (Bd.pZ HX.out HY.out))
            go_upto_region 11 with fail
            refine wp_region_still_tail 13 (by kernel_rfl) (by kernel_rfl) ?_
            simp only [List.take_succ_cons, List.take_zero, List.drop_succ_cons, List.drop_zero]
            change wpStill _ _ w3.drew _ _ _
            iterate 13 still_step
            refine wpStill_nil ?_
            change wpList _ _ _ _ _ w3.drew
            go_wp2_with fail
            have hcx : (w3.drewN (1 + fcnt .sub y y)).drew.cell? ⟨b, o + k, none⟩ = some (.float .f64 x) := hx3
            have hcy : (w3.drewN (1 + fcnt .sub y y)).drew.cell? ⟨b', o' + k, none⟩ = some (.float .f64 y) := hc'
            refine wp_region_still_tail 9 (by kernel_rfl) (by kernel_rfl) ?_
            simp only [List.take_succ_cons, List.take_zero, List.drop_succ_cons, List.drop_zero]
            change wpStill _ _ (w3.drewN (1 + fcnt .sub y y)).drew _ _ _
            iterate 9 still_step
            refine wpStill_nil ?_
            change wpList _ _ _ _ _ (w3.drewN (1 + fcnt .sub y y)).drew
            go_wp2_with fail
            refine (HPr.out _ (HA3.out.drewN _)).mono ?_; rintro e w5 ⟨rfl, hacc, ho⟩
            have HA5 := Hd.mk hacc
            have HA5' := Hd.mk (AccIs.only (HA3'.out.drewN _) ho (Ne.symm L12.out))
            have HB5 := Hd.mk (Only.below (below_drewN HB3.out _) L1.out ho HB3.out.size)
            clear hacc ho
            go_wp2_with fail
            exact ⟨⟨k + 1, _, H1.out.1, by go_num, HA5, HA5', ⟨HZ4.out.mono (by omega)⟩, HB5⟩, by simp [intOf]; omega⟩
        · have hd3 : decide (k < n') = false := by simp; omega
          clear hkn
          go_upto_region 11 with fail
          go_quiet (fail)
          go_wp2_with fail
          exact ⟨⟨k + 1, _, H1.out.1, by go_num, ⟨HA3.out.drewN _⟩, ⟨HA3'.out.drewN _⟩, ⟨HZ3.out.mono (by omega)⟩, ⟨below_drewN HB3.out _⟩⟩, by simp [intOf]; omega⟩
    · have hge : (n : Int) ≤ k := by omega
      have HZB := Hd.mk (HZ.out.accB (small_bd _ (by omega)))
      have hm0 : Z + -Z = 0 := by omega
      have o1 : overA 0 false false 1 = 0 := by decide +kernel
      clear hlt
      go_wp2_with fail
      refine (copy_any b1 Z false false _ HA.out).mono ?_; rintro e w3 ⟨b3, rfl, hb3, hacc, hb⟩
      have A3 := Hd.mk hacc
      have A3' := Hd.mk (HA.out.below hb)
      have A3'' := Hd.mk (HA2.out.below hb)
      have B3 := Hd.mk (HB.out.trans (hb.mono HB.out.size))
      have L3 := Hd.mk (Nat.le_trans HB.out.size hb3)
      have L13 := Hd.mk (show b1 ≠ b3 from fun e => by have := HA.out.lt; omega)
      have L23 := Hd.mk (show b2 ≠ b3 from fun e => by have := HA2.out.lt; omega)
      clear hacc hb hb3
      go_wp2_with fail
      refine (turn_any b3 Z false false _ A3.out).mono ?_; rintro e w4 ⟨rfl, hacc, ho⟩
      have A4 := Hd.mk hacc
      have A4' := Hd.mk (A3'.out.only ho L13.out)
      have A4'' := Hd.mk (A3''.out.only ho L23.out)
      have B4 := Hd.mk (Only.below B3.out L3.out ho B3.out.size)
      clear hacc ho
      go_wp2_with fail
      refine (merge_any b1 Z false false b3 (-Z) false false _ A4'.out A4.out).mono ?_; rintro e w5 ⟨rfl, hacc, ho⟩
      rw [hm0] at hacc
      have A5 := Hd.mk hacc
      have A5'' := Hd.mk (A4''.out.only ho (Ne.symm L12.out))
      have B5 := Hd.mk (Only.below B4.out L1.out ho B4.out.size)
      clear hacc ho
      go_wp2_with fail
      refine (sign_any b1 0 (false || false) (false || false) _ A5.out AccB_zero).mono ?_; rintro e w' ⟨rfl, rfl⟩
      rw [show asgn 0 (false || false) (false || false) = 0 from rfl]
      go_wp2_with fail
      refine (same_any b1 0 (false || false) (false || false) b2 0 false false _ A5.out A5''.out AccB_zero AccB_zero).mono ?_; rintro e w' ⟨rfl, m1, rfl⟩
      rw [show asame 0 (false || false) (false || false) 0 false false = true from rfl]
      go_wp2_with fail
      refine (value_any b1 0 (false || false) (false || false) _ (A5.out.drewN _) AccB_zero).mono ?_; rintro e w6 ⟨rfl, hb⟩
      rw [show overA 0 (false || false) (false || false) 1 = 0 from o1]
      have B6 := Hd.mk ((below_drewN B5.out m1).trans (hb.mono B5.out.size))
      clear hb
      go_wp2_with fail
      refine (apiBits_any _ _).mono ?_; rintro en w' ⟨rfl, rfl⟩
      go_wp2_with fail
      refine (HDn.out _ B6.out).mono ?_; rintro e w7 ⟨rfl, hb⟩
      have B7 := Hd.mk hb
      clear hb
      go_wp2_with fail
      go_ret
      exact ⟨rfl, B7.out⟩

end Go.Proofs.Ytpegicgahbambaa
