/- The walk of solve.Root between two ends. -/
import Derived.Test.YtjhkjekbadbgnaaRo
import Derived.Test.YtjhkjekbadbgnaaBs
namespace Go.Proofs.Ytjhkjekbadbgnaa
open Go.RowKit

theorem gnn {r v : Nat} (h : cn r = v) : nn v = nn r := by rw [← h, nn_cn]
theorem grk {r v : Nat} (h : cn r = v) (hn : nn r = false) : rk v = rk r := by rw [← h, cn_of r hn]
theorem F64_0 : F64 0 := ⟨by decide⟩
theorem nn_0 : nn 0 = false := by unfold nn mg INF; decide
theorem rk_0 : rk 0 = 0 := by unfold rk ng mg; decide
theorem feq0 (x : Nat) (hx : F64 x) (hn : nn x = false) : (FloatKind.f64.format.order x 0 == some .eq) = decide (rk x = 0) := by
  rw [feq x 0 hx F64_0, hn, nn_0, rk_0]; rfl
theorem fgt0 (x : Nat) (hx : F64 x) (hn : nn x = false) : (FloatKind.f64.format.order x 0 == some .gt) = decide (0 < rk x) := by
  rw [fgt x 0 hx F64_0, hn, nn_0, rk_0]; rfl

theorem root_e1 {g : Nat → Nat} {lo hi : Nat} (h : okEnds lo hi = true) (h1 : nn (g lo) = true) : root g lo hi = (0, 1, 91) := by
  unfold root; rw [if_neg (by simp [h]), if_pos h1]
theorem root_e2 {g : Nat → Nat} {lo hi : Nat} (h : okEnds lo hi = true) (h1 : nn (g lo) = false) (h2 : nn (g hi) = true) : root g lo hi = (0, 2, 91) := by
  unfold root; rw [if_neg (by simp [h]), if_neg (by simp [h1]), if_pos h2]
theorem root_e3 {g : Nat → Nat} {lo hi : Nat} (h : okEnds lo hi = true) (h1 : nn (g lo) = false) (h2 : nn (g hi) = false) (h3 : rk (g lo) = 0) : root g lo hi = (lo, 2, 0) := by
  unfold root; rw [if_neg (by simp [h]), if_neg (by simp [h1]), if_neg (by simp [h2]), if_pos h3]
theorem root_e4 {g : Nat → Nat} {lo hi : Nat} (h : okEnds lo hi = true) (h1 : nn (g lo) = false) (h2 : nn (g hi) = false) (h3 : ¬ rk (g lo) = 0) (h4 : rk (g hi) = 0) : root g lo hi = (hi, 2, 0) := by
  unfold root; rw [if_neg (by simp [h]), if_neg (by simp [h1]), if_neg (by simp [h2]), if_neg h3, if_pos h4]
theorem root_e5 {g : Nat → Nat} {lo hi : Nat} (h : okEnds lo hi = true) (h1 : nn (g lo) = false) (h2 : nn (g hi) = false) (h3 : ¬ rk (g lo) = 0) (h4 : ¬ rk (g hi) = 0) (h5 : decide (0 < rk (g lo)) = decide (0 < rk (g hi))) : root g lo hi = (0, 2, 120) := by
  unfold root; rw [if_neg (by simp [h]), if_neg (by simp [h1]), if_neg (by simp [h2]), if_neg h3, if_neg h4, if_pos h5]
theorem root_e6 {g : Nat → Nat} {lo hi : Nat} (h : okEnds lo hi = true) (h1 : nn (g lo) = false) (h2 : nn (g hi) = false) (h3 : ¬ rk (g lo) = 0) (h4 : ¬ rk (g hi) = 0) (h5 : ¬ decide (0 < rk (g lo)) = decide (0 < rk (g hi))) : root g lo hi = bis g (decide (0 < rk (g lo))) 64 lo hi 2 := by
  unfold root; rw [if_neg (by simp [h]), if_neg (by simp [h1]), if_neg (by simp [h2]), if_neg h3, if_neg h4, if_neg h5]

set_option maxHeartbeats 1600000 in
theorem root_ok {fid : FuncId} {caps : Array Value} {B : Nat} {I : Nat → World → Prop} {D : Nat → Prop} {g : Nat → Nat} (hf : Fun1 fid caps B I D g)
    (lo hi : Nat) (hlo : F64 lo) (hhi : F64 hi) (w : World) (hB : B ≤ w.heap.size) (hI : I 0 w) (hok : okEnds lo hi = true)
    (hD : ∀ x, F64 x → nn x = false → rk lo ≤ rk x → rk x ≤ rk hi → D x) :
    Calls Try.prog 20 #[.func (.func fid) #[] caps, .float .f64 lo, .float .f64 hi] w (RootRet (root g lo hi) I) := by
  obtain ⟨h1, h2, hlt⟩ := okEnds_of hok
  have HOK := Hd.mk hok
  have HF := Hd.mk hf
  have HI := Hd.mk hI
  have HD := Hd.mk hD
  have HLT := Hd.mk hlt
  have N1 := Hd.mk (nn_fin lo h1)
  have N2 := Hd.mk (nn_fin hi h2)
  have heq := eq_nilFunc fid caps
  have hmf : ∀ (fn : Fn) (first cap : Array Value) (w : World), (Instr.makeFunc fn first cap).run Try.prog w = .ok (.func fn first cap) w := fun _ _ _ _ => rfl
  have h3 : (FloatKind.f64.format.order lo hi == some .lt) = true := by
    rw [flt lo hi hlo hhi, N1.out, N2.out]; simp [hlt]
  clear hf hI hD hlt hok
  go_enter Try.func20, Try.ntmps20
  go_wp2_with fail
  refine (number_any _ hlo _).mono ?_; rintro e w' ⟨rfl, rfl⟩
  go_wp2_with fail
  refine (number_any _ hhi _).mono ?_; rintro e w' ⟨rfl, rfl⟩
  go_wp2_with fail
  have hI0 : I 0 ((w.alloc (.cells #[.func (.func fid) #[] caps] 38)).alloc (.cells #[.int .i64 0] 3)) := HF.out.stable 0 w _ HI.out (((Below.refl _ _).alloc hB _).alloc (by simp; omega) _)
  refine (ask_any HF.out 0 lo (w.heap.size + 1) w.heap.size _ hI0 hlo (HD.out lo hlo N1.out (Int.le_refl _) (by have := HLT.out; omega)) (by omega) hB (by omega) (by omega) (by go_simp) (by go_simp) (by go_simp)).mono ?_
  clear hI0 HI
  generalize w.heap.size = s at *
  rintro e w1 ⟨r, rfl, hr, hcr, hI1, hc1, hfz1, hfc1, -⟩
  cases hn : nn r
  · have hnlo : nn (g lo) = false := (gnn hcr.out).trans hn
    have GL := Hd.mk hnlo
    have RL := Hd.mk (grk hcr.out hn)
    have HNR := Hd.mk hn
    clear hnlo
    go_wp2_with fail
    refine (snan_any _ hr _).mono ?_; rintro e w' ⟨rfl, rfl⟩
    go_wp2_with fail
    refine (ask_any HF.out 1 hi (s + 1) s _ hI1.out hhi (HD.out hi hhi N2.out (by have := HLT.out; omega) (Int.le_refl _)) (by omega) hB (by omega) (by omega) hc1 hfz1 hfc1).mono ?_
    clear hc1 hfz1 hfc1 hI1
    rintro e w2 ⟨q, rfl, hq, hcq, hI2, hc2, hfz2, hfc2, -⟩
    cases hm : nn q
    · have hnhi : nn (g hi) = false := (gnn hcq.out).trans hm
      have GH := Hd.mk hnhi
      have RH := Hd.mk (grk hcq.out hm)
      clear hnhi
      have f1 := feq0 r hr hn
      have f2 := feq0 q hq hm
      have f3 := fgt0 r hr hn
      have f4 := fgt0 q hq hm
      clear hn
      have HM := Hd.mk hm
      clear hm
      by_cases c1 : rk r = 0
      · have H : Hd (root g lo hi = (lo, 2, 0)) := ⟨root_e3 HOK.out GL.out GH.out (RL.out.trans c1)⟩
        rw [decide_eq_true c1] at f1
        clear c1 f2 f3 f4
        go_wp2_with fail
        refine (snan_any _ hq _).mono ?_; rintro e w' ⟨rfl, rfl⟩
        have hm := HM.out
        go_wp2_with fail
        go_region
        go_wp2
        exact bodyPost_ret (v := .tuple #[.float .f64 lo, .int .i64 2, .int .i64 0]) (by simp [results, Try.results20, go_sem, hc2]) rfl ⟨by rw [H.out]; rfl, by rw [H.out]; exact HF.out.stable _ _ _ hI2.out (Below.drew (Below.setCell (Below.refl _ _) (by show B ≤ s + 1; omega) _))⟩
      · rw [decide_eq_false c1] at f1
        by_cases c2 : rk q = 0
        · have H : Hd (root g lo hi = (hi, 2, 0)) := ⟨root_e4 HOK.out GL.out GH.out (by rw [RL.out]; exact c1) (RH.out.trans c2)⟩
          rw [decide_eq_true c2] at f2
          clear c1 c2 f3 f4
          go_wp2_with fail
          refine (snan_any _ hq _).mono ?_; rintro e w' ⟨rfl, rfl⟩
          have hm := HM.out
          go_wp2_with fail
          go_region
          go_wp2
          exact bodyPost_ret (v := .tuple #[.float .f64 hi, .int .i64 2, .int .i64 0]) (by simp [results, Try.results20, go_sem, hc2]) rfl ⟨by rw [H.out]; rfl, by rw [H.out]; exact HF.out.stable _ _ _ hI2.out (Below.drew (Below.setCell (Below.refl _ _) (by show B ≤ s + 1; omega) _))⟩
        · rw [decide_eq_false c2] at f2
          obtain ⟨sa, hsa⟩ : ∃ b, decide (0 < rk r) = b := ⟨_, rfl⟩
          obtain ⟨sb, hsb⟩ : ∃ b, decide (0 < rk q) = b := ⟨_, rfl⟩
          rw [hsa] at f3
          rw [hsb] at f4
          by_cases c3 : sa = sb
          · have H : Hd (root g lo hi = (0, 2, 120)) := ⟨root_e5 HOK.out GL.out GH.out (by rw [RL.out]; exact c1) (by rw [RH.out]; exact c2) (by rw [RL.out, RH.out, hsa, hsb, c3])⟩
            have c4 : (sa == sb) = true := by simp [c3]
            clear c1 c2 c3 hsa hsb
            go_wp2_with fail
            refine (snan_any _ hq _).mono ?_; rintro e w' ⟨rfl, rfl⟩
            have hm := HM.out
            go_wp2_with fail
            go_region
            go_wp2
            exact bodyPost_ret (v := .tuple #[.float .f64 0, .int .i64 2, .int .i64 120]) (by simp [results, Try.results20, go_sem, hc2]) rfl ⟨by rw [H.out]; rfl, by rw [H.out]; exact HF.out.stable _ _ _ hI2.out (Below.drew (Below.setCell (Below.refl _ _) (by show B ≤ s + 1; omega) _))⟩
          · have H : Hd (root g lo hi = bis g sa 64 lo hi 2) := ⟨by rw [root_e6 HOK.out GL.out GH.out (by rw [RL.out]; exact c1) (by rw [RH.out]; exact c2) (by rw [RL.out, RH.out, hsa, hsb]; exact c3), RL.out, hsa]⟩
            have c4 : (sa == sb) = false := by simp [c3]
            clear c1 c2 c3 hsa hsb
            go_wp2_with fail
            refine (snan_any _ hq _).mono ?_; rintro e w' ⟨rfl, rfl⟩
            have hm := HM.out
            go_wp2_with fail
            clear f1 f2 f4 c4 hm hcr hcq hq h1 h2 h3
            go_loopg [1, 2] 64 (fun kq v1 v2 w' => ∃ (x y c : Nat), v1 = .float .f64 x ∧ v2 = .float .f64 y ∧ F64 x ∧ F64 y ∧ Hd (nn x = false) ∧ Hd (nn y = false) ∧
              Hd (rk lo ≤ rk x ∧ rk y ≤ rk hi ∧ rk x < rk y ∧ rk y - rk x ≤ 2 ^ kq) ∧ Hd (root g lo hi = bis g sa kq x y c) ∧ Hd (I c w') ∧ Hd (kq + c ≤ 66) ∧
              Hd (w'.cell? ⟨s + 1, 0, none⟩ = some (.int .i64 c)) ∧ w'.frozen? ⟨s + 1, 0, none⟩ = false ∧ w'.cell? ⟨s, 0, none⟩ = some (.func (.func fid) #[] caps))
            case atStart => exact ⟨lo, hi, 2, rfl, rfl, hlo, hhi, N1, N2, ⟨Int.le_refl _, Int.le_refl _, HLT.out, gap64 N1.out N2.out⟩, H, hI2, ⟨by decide⟩, ⟨hc2⟩, hfz2, hfc2⟩
            case round =>
              clear H hI2 hc2 hfz2 hfc2
              obtain ⟨x, y, c, rfl, rfl, hx, hy, NX, NY, HG, H, hI2, HK, HC, hfz2, hfc2⟩ := hrel
              obtain ⟨m, hmd⟩ : ∃ m, md x y = m := ⟨_, rfl⟩
              have hmr := (md_rk NX.out NY.out).1
              have hm64 := (md_rk NX.out NY.out).2.1
              have NM := Hd.mk (md_rk NX.out NY.out).2.2
              rw [hmd] at hmr hm64 NM
              have HMR := Hd.mk hmr
              have HMD := Hd.mk hmd
              clear hmr hmd
              by_cases he : rk m = rk x
              · have H' : Hd (root g lo hi = (x, c, 0)) := ⟨by rw [H.out]; exact bis_stop _ _ _ _ _ _ (by rw [HMD.out]; exact he)⟩
                have he' : (rk m == rk x) = true := by rw [beq_iff_eq]; exact he
                have hc := HC.out
                clear H he
                go_wp2_with fail
                refine (mid_any x y hx hy NX.out NY.out _).mono ?_; rintro e w' ⟨rfl, rfl⟩
                rw [show atk ((rk x + rk y) / 2) = m from HMD.out]
                go_wp2_with fail
                refine (rank_any m hm64 NM.out _).mono ?_; rintro e w' ⟨rfl, rfl⟩
                go_wp2_with fail
                refine (rank_any x hx NX.out _).mono ?_; rintro e w' ⟨rfl, rfl⟩
                go_wp2_with fail
                go_region
                go_wp2
                exact bodyPost_ret (v := .tuple #[.float .f64 x, .int .i64 c, .int .i64 0]) (by simp [results, Try.results20, go_sem, hc]) rfl ⟨by rw [H'.out], by rw [H'.out]; exact HF.out.stable _ _ _ hI2.out (Below.drew (Below.setCell (Below.refl _ _) (by show B ≤ s + 1; omega) _))⟩
              · have he' : (rk m == rk x) = false := by rw [beq_eq_false_iff_ne]; exact he
                have HE : Hd (¬ rk (md x y) = rk x) := ⟨by rw [HMD.out]; exact he⟩
                clear he
                obtain ⟨k, rfl⟩ : ∃ k, gk = k + 1 := by
                  cases gk with
                  | zero => exact absurd (gap_0 NX.out NY.out HG.out.2.2.1 HG.out.2.2.2) HE.out
                  | succ k => exact ⟨k, rfl⟩
                have HB := Hd.mk (md_bd NX.out NY.out HG.out.2.2.1 HE.out HG.out.2.2.2)
                rw [HMD.out] at HB
                go_wp2_with fail
                refine (mid_any x y hx hy NX.out NY.out _).mono ?_; rintro e w' ⟨rfl, rfl⟩
                rw [show atk ((rk x + rk y) / 2) = m from HMD.out]
                go_wp2_with fail
                refine (rank_any m hm64 NM.out _).mono ?_; rintro e w' ⟨rfl, rfl⟩
                go_wp2_with fail
                refine (rank_any x hx NX.out _).mono ?_; rintro e w' ⟨rfl, rfl⟩
                go_wp2_with fail
                refine (ask_any HF.out c m (s + 1) s _ hI2.out hm64 (HD.out m hm64 NM.out (by have := HG.out; have := HB.out; omega) (by have := HG.out; have := HB.out; omega)) (by omega) hB (by omega) (by have := HK.out; omega) HC.out hfz2 hfc2).mono ?_
                clear HC hfz2 hfc2 hI2
                rintro e w3 ⟨v, rfl, hv, hcv, hI2, hc2, hfz2, hfc2, -⟩
                have HC := Hd.mk hc2
                clear hc2
                have hgv : g (md x y) = cn v := by rw [HMD.out]; exact hcv.out.symm
                cases hnv : nn v
                · have g1 : nn (g (md x y)) = false := by rw [hgv, nn_cn]; exact hnv
                  have g2 : rk (g (md x y)) = rk v := by rw [hgv, cn_of v hnv]
                  have f5 := feq0 v hv hnv
                  have f6 := fgt0 v hv hnv
                  have HNV := Hd.mk hnv
                  clear hgv hcv hnv
                  by_cases c1 : rk v = 0
                  · have H' : Hd (root g lo hi = (m, c + 1, 0)) := ⟨by rw [H.out, bis_zero _ _ _ _ _ _ HE.out g1 (g2.trans c1), HMD.out]⟩
                    rw [decide_eq_true c1] at f5
                    have hc := HC.out
                    clear c1 g1 g2 f6 H
                    go_wp2_with fail
                    refine (snan_any _ hv _).mono ?_; rintro e w' ⟨rfl, rfl⟩
                    have hnv := HNV.out
                    go_wp2_with fail
                    go_region
                    go_wp2
                    exact bodyPost_ret (v := .tuple #[.float .f64 m, .int .i64 (c + 1 : Nat), .int .i64 0]) (by simp [results, Try.results20, go_sem, hc]) rfl ⟨by rw [H'.out], by rw [H'.out]; exact HF.out.stable _ _ _ hI2.out (Below.drew (Below.setCell (Below.refl _ _) (by show B ≤ s + 1; omega) _))⟩
                  · rw [decide_eq_false c1] at f5
                    obtain ⟨sv, hsv⟩ : ∃ b, decide (0 < rk v) = b := ⟨_, rfl⟩
                    rw [hsv] at f6
                    by_cases c3 : sv = sa
                    · have H' : Hd (root g lo hi = bis g sa k m y (c + 1)) := ⟨by rw [H.out, bis_up _ _ _ _ _ _ HE.out g1 (by rw [g2]; exact c1) (by rw [g2, hsv]; exact c3), HMD.out]⟩
                      have c4 : (sv == sa) = true := by simp [c3]
                      clear c1 c3 g1 g2 H hsv
                      go_wp2_with fail
                      refine (snan_any _ hv _).mono ?_; rintro e w' ⟨rfl, rfl⟩
                      have hnv := HNV.out
                      go_wp2_with fail
                      go_roundg k
                      case measure => omega
                      case rel => exact ⟨m, y, c + 1, rfl, rfl, hm64, hy, NM, NY, ⟨by have := HG.out; have := HB.out; omega, HG.out.2.1, HB.out.2.1, HB.out.2.2.2⟩, H', hI2, ⟨by have := HK.out; omega⟩, HC, hfz2, hfc2⟩
                    · have H' : Hd (root g lo hi = bis g sa k x m (c + 1)) := ⟨by rw [H.out, bis_dn _ _ _ _ _ _ HE.out g1 (by rw [g2]; exact c1) (by rw [g2, hsv]; exact c3), HMD.out]⟩
                      have c4 : (sv == sa) = false := by simp [c3]
                      clear c1 c3 g1 g2 H hsv
                      go_wp2_with fail
                      refine (snan_any _ hv _).mono ?_; rintro e w' ⟨rfl, rfl⟩
                      have hnv := HNV.out
                      go_wp2_with fail
                      go_roundg k
                      case measure => omega
                      case rel => exact ⟨x, m, c + 1, rfl, rfl, hx, hm64, NX, NM, ⟨HG.out.1, by have := HG.out; have := HB.out; omega, HB.out.1, HB.out.2.2.1⟩, H', hI2, ⟨by have := HK.out; omega⟩, HC, hfz2, hfc2⟩
                · have H' : Hd (root g lo hi = (0, c + 1, 91)) := ⟨by rw [H.out, bis_nan _ _ _ _ _ _ HE.out (by rw [hgv, nn_cn]; exact hnv)]⟩
                  have hc := HC.out
                  clear H hgv hcv
                  go_wp2_with fail
                  refine (snan_any _ hv _).mono ?_; rintro e w' ⟨rfl, rfl⟩
                  go_wp2_with fail
                  go_region
                  go_wp2
                  exact bodyPost_ret (v := .tuple #[.float .f64 0, .int .i64 (c + 1 : Nat), .int .i64 91]) (by simp [results, Try.results20, go_sem, hc]) rfl ⟨by rw [H'.out], by rw [H'.out]; exact HF.out.stable _ _ _ hI2.out (Below.drew (Below.setCell (Below.refl _ _) (by show B ≤ s + 1; omega) _))⟩
    · have H : Hd (root g lo hi = (0, 2, 91)) := ⟨root_e2 HOK.out GL.out ((gnn hcq.out).trans hm)⟩
      go_wp2_with fail
      refine (snan_any _ hq _).mono ?_; rintro e w' ⟨rfl, rfl⟩
      go_wp2_with fail
      go_region
      go_wp2
      exact bodyPost_ret (v := .tuple #[.float .f64 0, .int .i64 2, .int .i64 91]) (by simp [results, Try.results20, go_sem, hc2]) rfl ⟨by rw [H.out]; rfl, by rw [H.out]; exact HF.out.stable _ _ _ hI2.out (Below.drew (Below.setCell (Below.refl _ _) (by show B ≤ s + 1; omega) _))⟩
  · have H : Hd (root g lo hi = (0, 1, 91)) := ⟨root_e1 HOK.out ((gnn hcr.out).trans hn)⟩
    go_wp2_with fail
    refine (snan_any _ hr _).mono ?_; rintro e w' ⟨rfl, rfl⟩
    go_wp2_with fail
    go_region
    go_wp2
    exact bodyPost_ret (v := .tuple #[.float .f64 0, .int .i64 1, .int .i64 91]) (by simp [results, Try.results20, go_sem, hc1]) rfl ⟨by rw [H.out]; rfl, by rw [H.out]; exact HF.out.stable _ _ _ hI1.out (Below.drew (Below.setCell (Below.refl _ _) (by show B ≤ s + 1; omega) _))⟩

end Go.Proofs.Ytjhkjekbadbgnaa
