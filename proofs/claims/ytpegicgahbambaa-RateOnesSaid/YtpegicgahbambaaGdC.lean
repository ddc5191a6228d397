/- RateOnes' walk. -/
import Derived.Test.YtpegicgahbambaaGaC
import Derived.Test.YtpegicgahbambaaGcC
namespace Go.Proofs.Ytpegicgahbambaa
open Go.RowKit
set_option linter.unusedSimpArgs false
set_option linter.unusedVariables false

theorem F64_facA (k : Int) (r t : Nat) : F64 (facA k r t).1 := by
  have z : F64 0 := z0_facts.1
  have h : F64 (rtF k r t) := by
    unfold rtF
    split
    · exact F64_fdiv _ _
    · split
      · exact F64_fexp _
      · exact F64_fexp _
  unfold facA
  repeat' split
  all_goals first | exact z | exact h

theorem self_sub (x : Nat) (hx : F64 x) (w : World) : (FloatKind.f64.format.order (fres .sub x x w) 0 == some .eq) = fin x := by
  have h : cn (fres .sub x x w) = if fin x then 0 else NaNc := by rw [cn_fsub _ _ _ hx hx]; exact fsub_self x hx
  cases c : fin x
  · rw [c] at h
    have hn : nn (fres .sub x x w) = true := by rw [← nn_cn, h]; decide +kernel
    rw [feq _ 0 (F64_fres .sub x x w) z0_facts.1, hn]; rfl
  · rw [c] at h
    have e : fres .sub x x w = 0 := of_cn (h.trans (if_pos rfl)) (by decide +kernel)
    rw [e]; decide +kernel


set_option maxHeartbeats 3200000 in
set_option maxRecDepth 100000 in
theorem rateOnes_any (k : Int) (r t : Nat) (w : World) (hk : (Lit.int .i64 k).wf = true) (hr : F64 r) (ht : F64 t) :
    Calls Try.prog 5 #[.int .i64 k, .float .f64 r, .float .f64 t] w fun e w' => e = .returned (.bool true) ∧ Below w.heap.size w w' := by
  clear hk
  have HA := Hd.mk awake9_any
  have HF := Hd.mk (fits_any t ht)
  by_cases c1 : k < 1
  · go_enter Try.func5, Try.ntmps5
    go_wp2_with fail
    refine (HA.out _).mono ?_; rintro en w1 ⟨rfl, hb⟩
    go_wp2_with fail
    go_ret
    exact ⟨rfl, hb⟩
  have k1 : 1 ≤ k := by omega
  clear c1
  by_cases c2 : 6 < k
  · go_enter Try.func5, Try.ntmps5
    go_wp2_with fail
    refine (HA.out _).mono ?_; rintro en w1 ⟨rfl, hb⟩
    go_wp2_with fail
    go_ret
    exact ⟨rfl, hb⟩
  have k2 : k ≤ 6 := by omega
  clear c2
  cases c3 : okT t
  · rw [c3] at HF
    clear c3
    go_enter Try.func5, Try.ntmps5
    go_wp2_with fail
    refine (HF.out _).mono ?_; rintro e w' ⟨rfl, rfl⟩
    go_wp2_with fail
    refine (HA.out _).mono ?_; rintro en w1 ⟨rfl, hb⟩
    go_wp2_with fail
    go_ret
    exact ⟨rfl, hb⟩
  rw [c3] at HF
  have C3 := Hd.mk c3
  clear c3
  have hns : ∀ w1, (FloatKind.f64.format.order (fres .sub r r w1) 0 != some .eq) = !fin r := fun w1 => by
    unfold bne; rw [self_sub r hr]
  cases c6 : fin r
  · rw [c6] at hns
    clear c6
    go_enter Try.func5, Try.ntmps5
    go_wp2_with fail
    refine (HF.out _).mono ?_; rintro e w' ⟨rfl, rfl⟩
    go_wp2_with fail
    refine (HA.out _).mono ?_; rintro en w1 ⟨rfl, hb⟩
    go_wp2_with fail
    go_ret
    exact ⟨rfl, (below_drewN (Below.refl w.heap.size w) _).trans hb⟩
  rw [c6] at hns
  have hok : okK k = true := (okK_iff k).2 ⟨k1, k2⟩
  have W1 := Hd.mk (aec_fac k 0 t oneW 0 z0_facts.1 ht (ones_r k t hok ht C3.out))
  have o1 : (FloatKind.f64.format.order oneW oneW != some .eq) = false := by decide +kernel
  have W2 : Hd ((∀ w, Calls Try.prog 13 #[.int .i64 k, .float .f64 r, .float .f64 0] w (AEc oneW 0 w)) ∨ (∃ v, (∀ w, Calls Try.prog 13 #[.int .i64 k, .float .f64 r, .float .f64 0] w (AEc v 91 w)) ∧ (k == 1) = false ∧ (k == 6) = false ∧ (FloatKind.f64.format.order r moneW == some .gt) = false)) := ⟨by
    rcases ones_t k r hok hr c6 with h | ⟨h1, h2, h3, h4⟩
    · exact .inl (aec_fac k r 0 oneW 0 hr z0_facts.1 h)
    · refine .inr ⟨_, aec_fac k r 0 (facA k r 0).1 91 hr z0_facts.1 (Prod.ext rfl h1), by rw [beq_eq_false_iff_ne]; exact h2, by rw [beq_eq_false_iff_ne]; exact h3, ?_⟩
      rw [fgt r moneW hr ⟨by decide⟩, decide_eq_false (by omega : ¬ rk moneW < rk r), Bool.and_false]⟩
  have W3 : Hd ((∃ v, (∀ w, Calls Try.prog 13 #[.int .i64 k, .float .f64 r, .float .f64 t] w (AEc v 0 w)) ∧ nn v = false ∧ (FloatKind.f64.format.order v 0 == some .gt) = true ∧ (∀ w1, (FloatKind.f64.format.order (fres .sub v v w1) 0 == some .eq) = true)) ∨ (∃ v, ∀ w, Calls Try.prog 13 #[.int .i64 k, .float .f64 r, .float .f64 t] w (AEc v 91 w))) := ⟨by
    rcases ones_c k r t hok hr c6 ht C3.out with ⟨h1, h2, h3⟩ | h1
    · have hv := F64_facA k r t
      refine .inl ⟨_, aec_fac k r t (facA k r t).1 0 hr ht (Prod.ext rfl h1), nn_fin _ h2, ?_, fun w1 => by rw [self_sub _ hv, h2]⟩
      rw [fgt _ 0 hv z0_facts.1, nn_fin _ h2, z0_facts.2.1, z0_facts.2.2, decide_eq_true h3]; rfl
    · exact .inr ⟨_, aec_fac k r t (facA k r t).1 91 hr ht (Prod.ext rfl h1)⟩⟩
  have W4 : Hd (decide (0 < rk t) = true → ∃ v, (∀ w, Calls Try.prog 18 #[.int .i64 k, .float .f64 oneW, .float .f64 t] w (AEc v 0 w)) ∧ (∀ x, F64 x → cn x = v → (FloatKind.f64.format.order x 0 == some .eq) = true)) := ⟨fun h0 => by
    obtain ⟨h1, h2, h3⟩ := ones_y k t hok ht C3.out (of_decide_eq_true h0)
    refine ⟨_, aec_yld k oneW t (yldA k oneW t).1 0 one_w.w ht (Prod.ext rfl h1), fun x hx hc => ?_⟩
    have hn : nn x = false := by rw [← nn_cn, hc]; exact nn_fin _ h2
    rw [cn_of x hn] at hc
    rw [feq x 0 hx z0_facts.1, hn, z0_facts.2.1, z0_facts.2.2, hc, decide_eq_true h3]; rfl⟩
  have HT := fgt t 0 ht z0_facts.1
  rw [z0_facts.2.1, z0_facts.2.2, nn_fin t ((okT_iff t).1 C3.out).1, Bool.not_false, Bool.true_and, Bool.true_and] at HT
  clear hok c6 C3
  generalize decide (0 < rk t) = tp at *
  go_enter Try.func5, Try.ntmps5
  go_wp2_with fail
  refine (HF.out _).mono ?_; rintro e w' ⟨rfl, rfl⟩
  go_wp2_with fail
  refine (W1.out _).mono ?_; rintro en w1 ⟨x0, rfl, hx0, HX0, hb⟩
  obtain rfl := of_cn HX0.out (by decide +kernel)
  have B1 := Hd.mk ((below_drewN (Below.refl w.heap.size w) (fcnt .sub r r)).trans hb.out)
  clear hb HX0 W1 hx0
  go_wp2_with fail
  rcases W2.out with V2 | ⟨v2, V2, n1, n6, nr⟩
  · have V2 := Hd.mk V2
    refine (V2.out _).mono ?_; rintro en w2 ⟨x1, rfl, hx1, HX1, hb⟩
    obtain rfl := of_cn HX1.out (by decide +kernel)
    have B2 := Hd.mk (B1.out.trans (hb.out.mono B1.out.size))
    clear hb HX1 hx1 B1 V2 W2
    go_wp2_with fail
    rcases W3.out with ⟨v3, V3, nv3, gv3, sv3⟩ | ⟨v3, V3⟩
    · have V3 := Hd.mk V3
      refine (V3.out _).mono ?_; rintro en w3 ⟨x3, rfl, hx3, HX3, hb⟩
      obtain rfl := of_cn HX3.out nv3
      have B3 := Hd.mk (below_drewN (B2.out.trans (hb.out.mono B2.out.size)) (fcnt .sub x3 x3))
      clear hb HX3 hx3 W3 V3 nv3
      cases tp
      · go_wp2_with fail
        refine (HA.out _).mono ?_; rintro en w4 ⟨rfl, hb⟩
        have B4 := Hd.mk (B3.out.trans (hb.mono B3.out.size))
        clear hb
        go_wp2_with fail
        go_ret
        exact ⟨rfl, B4.out⟩
      · obtain ⟨v4, V4, X4⟩ := W4.out rfl
        have V4 := Hd.mk V4
        have X4 := Hd.mk X4
        go_wp2_with fail
        refine (V4.out _).mono ?_; rintro en w4 ⟨x4, rfl, hx4, HX4, hb⟩
        have x4e := X4.out x4 hx4 HX4.out
        have B4 := Hd.mk (B3.out.trans (hb.out.mono B3.out.size))
        clear hb HX4 hx4
        go_wp2_with fail
        refine (HA.out _).mono ?_; rintro en w5 ⟨rfl, hb⟩
        have B5 := Hd.mk (B4.out.trans (hb.mono B4.out.size))
        clear hb
        go_wp2_with fail
        go_ret
        exact ⟨rfl, B5.out⟩
    · have V3 := Hd.mk V3
      refine (V3.out _).mono ?_; rintro en w3 ⟨x3, rfl, hx3, HX3, hb⟩
      have B3 := Hd.mk (B2.out.trans (hb.out.mono B2.out.size))
      clear hb HX3 hx3 W3 V3
      cases tp
      · go_wp2_with fail
        refine (HA.out _).mono ?_; rintro en w4 ⟨rfl, hb⟩
        have B4 := Hd.mk (B3.out.trans (hb.mono B3.out.size))
        clear hb
        go_wp2_with fail
        go_ret
        exact ⟨rfl, B4.out⟩
      · obtain ⟨v4, V4, X4⟩ := W4.out rfl
        have V4 := Hd.mk V4
        have X4 := Hd.mk X4
        go_wp2_with fail
        refine (V4.out _).mono ?_; rintro en w4 ⟨x4, rfl, hx4, HX4, hb⟩
        have x4e := X4.out x4 hx4 HX4.out
        have B4 := Hd.mk (B3.out.trans (hb.out.mono B3.out.size))
        clear hb HX4 hx4
        go_wp2_with fail
        refine (HA.out _).mono ?_; rintro en w5 ⟨rfl, hb⟩
        have B5 := Hd.mk (B4.out.trans (hb.mono B4.out.size))
        clear hb
        go_wp2_with fail
        go_ret
        exact ⟨rfl, B5.out⟩
  · have V2 := Hd.mk V2
    refine (V2.out _).mono ?_; rintro en w2 ⟨x1, rfl, hx1, HX1, hb⟩
    have B2 := Hd.mk (B1.out.trans (hb.out.mono B1.out.size))
    clear hb HX1 hx1 B1 V2 W2
    go_wp2_with fail
    rcases W3.out with ⟨v3, V3, nv3, gv3, sv3⟩ | ⟨v3, V3⟩
    · have V3 := Hd.mk V3
      refine (V3.out _).mono ?_; rintro en w3 ⟨x3, rfl, hx3, HX3, hb⟩
      obtain rfl := of_cn HX3.out nv3
      have B3 := Hd.mk (below_drewN (B2.out.trans (hb.out.mono B2.out.size)) (fcnt .sub x3 x3))
      clear hb HX3 hx3 W3 V3 nv3
      cases tp
      · go_wp2_with fail
        refine (HA.out _).mono ?_; rintro en w4 ⟨rfl, hb⟩
        have B4 := Hd.mk (B3.out.trans (hb.mono B3.out.size))
        clear hb
        go_wp2_with fail
        go_ret
        exact ⟨rfl, B4.out⟩
      · obtain ⟨v4, V4, X4⟩ := W4.out rfl
        have V4 := Hd.mk V4
        have X4 := Hd.mk X4
        go_wp2_with fail
        refine (V4.out _).mono ?_; rintro en w4 ⟨x4, rfl, hx4, HX4, hb⟩
        have x4e := X4.out x4 hx4 HX4.out
        have B4 := Hd.mk (B3.out.trans (hb.out.mono B3.out.size))
        clear hb HX4 hx4
        go_wp2_with fail
        refine (HA.out _).mono ?_; rintro en w5 ⟨rfl, hb⟩
        have B5 := Hd.mk (B4.out.trans (hb.mono B4.out.size))
        clear hb
        go_wp2_with fail
        go_ret
        exact ⟨rfl, B5.out⟩
    · have V3 := Hd.mk V3
      refine (V3.out _).mono ?_; rintro en w3 ⟨x3, rfl, hx3, HX3, hb⟩
      have B3 := Hd.mk (B2.out.trans (hb.out.mono B2.out.size))
      clear hb HX3 hx3 W3 V3
      cases tp
      · go_wp2_with fail
        refine (HA.out _).mono ?_; rintro en w4 ⟨rfl, hb⟩
        have B4 := Hd.mk (B3.out.trans (hb.mono B3.out.size))
        clear hb
        go_wp2_with fail
        go_ret
        exact ⟨rfl, B4.out⟩
      · obtain ⟨v4, V4, X4⟩ := W4.out rfl
        have V4 := Hd.mk V4
        have X4 := Hd.mk X4
        go_wp2_with fail
        refine (V4.out _).mono ?_; rintro en w4 ⟨x4, rfl, hx4, HX4, hb⟩
        have x4e := X4.out x4 hx4 HX4.out
        have B4 := Hd.mk (B3.out.trans (hb.out.mono B3.out.size))
        clear hb HX4 hx4
        go_wp2_with fail
        refine (HA.out _).mono ?_; rintro en w5 ⟨rfl, hb⟩
        have B5 := Hd.mk (B4.out.trans (hb.mono B4.out.size))
        clear hb
        go_wp2_with fail
        go_ret
        exact ⟨rfl, B5.out⟩

end Go.Proofs.Ytpegicgahbambaa
