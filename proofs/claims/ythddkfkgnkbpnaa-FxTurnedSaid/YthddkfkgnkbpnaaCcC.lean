/- The walk of tenorlaw23's FxTurned. -/
import Derived.Test.YthddkfkgnkbpnaaCbC
import Derived.Test.YthddkfkgnkbpnaaCaC
namespace Go.Proofs.Ythddkfkgnkbpnaa
open Go.RowKit
set_option linter.unusedSimpArgs false
set_option linter.unusedVariables false

theorem float_pw (K : Nat) (w : World) : Calls Try.prog 25 #[.int .u64 ((K : Int) * 4503599627370496)] w fun e w' => e = .returned (.float .f64 (pw2 K)) ∧ w = w' := by
  have := apiFloat_any ((K : Int) * 4503599627370496) w
  rw [show ((K : Int) * 4503599627370496).toNat = pw2 K by unfold pw2; omega] at this
  exact this

set_option maxHeartbeats 6400000 in
set_option maxRecDepth 100000 in
theorem fxTurned_any (ad : Option Addr) (l : List Pr) (c : Nat) (at_ k cc : Int) (w : World) (hl : Prs w ad l) (hr : Room ad l.length c) (_h1 : (Lit.int .i64 at_).wf = true) (_h2 : (Lit.int .i64 k).wf = true) (_h3 : (Lit.int .i64 cc).wf = true) :
    Calls Try.prog 7 #[.slice ad l.length c, .int .i64 at_, .int .i64 k, .int .i64 cc] w fun e w' => e = .returned (.bool true) ∧ Below w.heap.size w w' := by
  by_cases hok : l.length ≤ 28 ∧ 0 ≤ at_ ∧ at_ < l.length ∧ -1000 ≤ k ∧ k ≤ 1000
  rotate_left
  · have hlen := hl.len
    generalize l.length = n at *
    clear hl hr
    have HW : Hd (Calls Try.prog 11 #[] w fun e w' => e = .returned (.bool true) ∧ Below w.heap.size w w') := ⟨awake23_any _⟩
    go_enter Try.func7, Try.ntmps7
    by_cases h1 : 28 < n
    · have d1 : decide ((n : Int) > 28) = true := by simp; omega
      clear hok h1
      go_wp2_with fail
      refine HW.out.mono ?_; rintro e w1 ⟨rfl, hb⟩
      have B := Hd.mk hb
      clear hb
      go_wp2_with fail
      go_ret
      exact ⟨rfl, B.out⟩
    have d1 : decide ((n : Int) > 28) = false := by simp; omega
    by_cases h2 : at_ < 0
    · have d2 : decide (at_ < 0) = true := by simpa using h2
      clear hok h1
      go_wp2_with fail
      refine HW.out.mono ?_; rintro e w1 ⟨rfl, hb⟩
      have B := Hd.mk hb
      clear hb
      go_wp2_with fail
      go_ret
      exact ⟨rfl, B.out⟩
    have d2 : decide (at_ < 0) = false := by simpa using h2
    by_cases h3 : (n : Int) ≤ at_
    · have d3 : decide (at_ ≥ (n : Int)) = true := by simpa using h3
      clear hok h1
      go_wp2_with fail
      refine HW.out.mono ?_; rintro e w1 ⟨rfl, hb⟩
      have B := Hd.mk hb
      clear hb
      go_wp2_with fail
      go_ret
      exact ⟨rfl, B.out⟩
    have d3 : decide (at_ ≥ (n : Int)) = false := by simpa using h3
    by_cases h4 : k < -1000
    · have d4 : decide (k < -1000) = true := by simpa using h4
      clear hok h1
      go_wp2_with fail
      refine HW.out.mono ?_; rintro e w1 ⟨rfl, hb⟩
      have B := Hd.mk hb
      clear hb
      go_wp2_with fail
      go_ret
      exact ⟨rfl, B.out⟩
    have d4 : decide (k < -1000) = false := by simpa using h4
    have d5 : decide (k > 1000) = true := by simp; omega
    clear hok h1
    go_wp2_with fail
    refine HW.out.mono ?_; rintro e w1 ⟨rfl, hb⟩
    have B := Hd.mk hb
    clear hb
    go_wp2_with fail
    go_ret
    exact ⟨rfl, B.out⟩
  obtain ⟨h1, h2, h3, h4, h5⟩ := hok
  obtain ⟨A, rfl⟩ : ∃ A : Nat, at_ = A := ⟨at_.toNat, by omega⟩
  obtain ⟨K, hK⟩ : ∃ K : Nat, 1023 + k = (K : Int) := ⟨(1023 + k).toNat, by omega⟩
  obtain ⟨J, hJ⟩ : ∃ J : Nat, 1023 - k = (J : Int) := ⟨(1023 - k).toNat, by omega⟩
  have lA : A < l.length := by omega
  have tw := twn l A lA hl.wf K (by omega) (by omega)
  rw [show 2046 - K = J by omega] at tw
  have hu1 := (pw2_facts K (by omega) (by omega)).1.wf
  have hu2 := (pw2_facts J (by omega) (by omega)).1.wf
  have hK2 : K ≤ 2023 := by omega
  have hJ2 : J ≤ 2023 := by omega
  have hp1 : K * 4503599627370496 < 18446744073709551616 := Nat.lt_of_le_of_lt (Nat.mul_le_mul_right _ hK2) (by decide)
  have hp2 : J * 4503599627370496 < 18446744073709551616 := Nat.lt_of_le_of_lt (Nat.mul_le_mul_right _ hJ2) (by decide)
  obtain ⟨i0, hi, hz0, hz1, hz2⟩ := info_partsP
  have hok2 : PrOk ⟨(l.getD A pr0).b, (l.getD A pr0).a, pw2 J⟩ := ⟨hu2, (hl.rg A).2, (hl.rg A).1⟩
  have TW := Hd.mk tw
  have HOK2 := Hd.mk hok2
  have HU1 := Hd.mk hu1
  obtain ⟨b, o, rfl, c1, c2, c3⟩ := hl.cell A lA
  have HL := Hd.mk hl
  have HNE : Hd (l ≠ []) := ⟨fun e => by rw [e] at lA; simp at lA⟩
  obtain ⟨n, hn'⟩ : ∃ n, l.length = n := ⟨_, rfl⟩
  have HN := Hd.mk hn'
  rw [hn'] at h1 h3 lA ⊢
  have d1 : decide ((n : Int) > 28) = false := by simp; omega
  have d2 : decide ((A : Int) < 0) = false := by simp
  have d3 : decide ((A : Int) ≥ (n : Int)) = false := by simp; omega
  have d4 : decide (k < -1000) = false := by simp; omega
  have d5 : decide (k > 1000) = false := by simp; omega
  have lA' : (A : Int) < n := by omega
  have A0 : (0 : Int) ≤ A := by omega
  have b0 : Below w.heap.size w (w.alloc (.cells #[] 40)) := (Below.refl _ _).alloc (Nat.le_refl _) _
  have B0 := Hd.mk b0
  have OE : Hd ((w.alloc (.cells #[] 40)).ownsRow w.heap.size 40 3 (.slice (some ⟨w.heap.size, 0, none⟩) 0 0) 0 []) := ⟨World.ownsRow_made w #[] 0 (Nat.le_refl _) (by decide) rfl⟩
  have HXG : Hd (∀ W, Below w.heap.size w W → (prV l).length = n * 3 ∧ (∀ j u, (prV l)[j]? = some u → W.cell? ((⟨b, o, none⟩ : Addr).add j) = some u) ∧ (∀ u ∈ prV l, u.oneCell' = true)) := ⟨fun W hW => ⟨by rw [prV_len, hn'], (hl.below hW).news, prV_one l⟩⟩
  have HX := Hd.mk (HXG.out _ b0)
  have HM : Hd (0 + n ≤ maxLen ∧ (0 + n) * 24 ≤ 140737488355328) := ⟨by unfold maxLen; omega, by omega⟩
  have HC1 := Hd.mk c1
  have HC2 := Hd.mk c2
  have HC3 := Hd.mk c3
  clear hl hr hn' b0 tw hu1 hu2 hok2 c1 c2 c3
  go_enter Try.func7, Try.ntmps7
  go_upto_region 3 with fail
  go_wp2_with (at_builtin; refine wpList_append_own _ rfl (.tmp 54) (.tmp 55) 22 rfl w.heap.size 40 i0 (.agg #[.int .i64 0, .int .i64 0, .float .f64 0]) 3 24 Try.underlying22 hi hz0 hz1 hz2 rfl (by decide) _ 0 [] rfl OE.out ⟨b, o, none⟩ n c (prV l) rfl HX.out.1 HX.out.2.1 HX.out.2.2 HM.out.1 HM.out.2 (by simp) ?_)
  intro v' w1 ho hg he
  try simp only [Nat.zero_add, List.nil_append] at ho
  obtain ⟨g1, cap1, rfl, hgb, hrow⟩ := PRow.of_own ho HN.out.symm HL.out.wf HL.out.rg HNE.out
  rw [HN.out]
  have hb1 := below_grown B0.out hg (fun k hk => (OE.out.lt k hk).1) B0.out.size
  have HB1 := Hd.mk hb1
  have HR1 := Hd.mk hrow
  have HG1 := Hd.mk hgb
  have hb1' : Below w.heap.size w (w1.alloc (.cells #[] 40)) := hb1.alloc hb1.size _
  have HX2 := Hd.mk (HXG.out _ hb1')
  have HB1' := Hd.mk hb1'
  have OE2 : Hd ((w1.alloc (.cells #[] 40)).ownsRow w1.heap.size 40 3 (.slice (some ⟨w1.heap.size, 0, none⟩) 0 0) 0 []) := ⟨World.ownsRow_made w1 #[] 0 (Nat.le_refl _) (by decide) rfl⟩
  clear ho hg he hrow hgb HX OE B0 hb1 hb1'
  go_wp2_with (at_builtin; refine wpList_append_own _ rfl (.tmp 57) (.tmp 58) 22 rfl w1.heap.size 40 i0 (.agg #[.int .i64 0, .int .i64 0, .float .f64 0]) 3 24 Try.underlying22 hi hz0 hz1 hz2 rfl (by decide) _ 0 [] rfl OE2.out ⟨b, o, none⟩ n c (prV l) rfl HX2.out.1 HX2.out.2.1 HX2.out.2.2 HM.out.1 HM.out.2 (by simp) ?_)
  intro v' w2 ho hg he
  try simp only [Nat.zero_add, List.nil_append] at ho
  obtain ⟨g2, cap2, rfl, hgb, hrow⟩ := PRow.of_own ho HN.out.symm HL.out.wf HL.out.rg HNE.out
  rw [HN.out]
  have hb2 := below_grown HB1'.out hg (fun k hk => by have := (OE2.out.lt k hk).1; have := HB1.out.size; omega) HB1'.out.size
  have hb12 : Below w1.heap.size w1 w2 := below_grown ((Below.refl _ _).alloc (Nat.le_refl _) _) hg (fun k hk => (OE2.out.lt k hk).1) (World.alloc_size_le _ _)
  have hne : g1 ≠ g2 := by have := HR1.out.lt; omega
  have hrow1 := HR1.out.below hb12
  have hg1lt : g1 < w2.heap.size := hrow1.lt
  have hg2lt : g2 < w2.heap.size := hrow.lt
  have hs2 : w.heap.size ≤ w2.heap.size := hb2.size
  have c1 := cell_trP hb2 HC1.out
  have c2 := cell_trP hb2 HC2.out
  have c3 := cell_trP hb2 HC3.out
  have HBW2 := Hd.mk hb2
  have HS1 := Hd.mk hrow1
  have HS2 := Hd.mk hrow
  have HG2 : Hd (w.heap.size ≤ g2) := ⟨by have := HB1.out.size; omega⟩
  have hcap1 := hrow1.max
  have hcap1' := hrow1.le
  have hcap2 := hrow.max
  have hcap2' := hrow.le
  rw [HN.out] at hcap1' hcap2'
  clear ho hg he hrow hrow1 hgb hb2 hb12 OE2 HX2 HXG HM HR1 HB1 HB1' HC1 HC2 HC3 hi hz0 hz1 hz2
  generalize hpq : l.getD A pr0 = p at *
  have HPQ := Hd.mk hpq
  clear hpq
  obtain ⟨pa, pb, px⟩ := p
  dsimp only at c1 c2 c3
  obtain ⟨W, hW, bW, q0, q1, q2⟩ := box_pair w2 pa pb px
  have HW := Hd.mk hW
  have hR1 := HS1.out.below bW
  have hR2 := HS2.out.below bW
  have BW := Hd.mk (HBW2.out.trans (bW.mono hs2))
  have lAl : A < l.length := by rw [HN.out]; exact lA
  have x1 := (hR1.cell A lAl).2.2
  have fz1 := hR1.frozen
  have HR1 := Hd.mk hR1
  have HR2 := Hd.mk hR2
  have LAL := Hd.mk lAl
  clear hW bW hR1 hR2 lAl HBW2 HS1 HS2
  have w1' : IntKind.u64.wrap (K : Int) = K := by rw [IntKind.wrap_u64]; omega
  have w2' : IntKind.u64.wrap (J : Int) = J := by rw [IntKind.wrap_u64]; omega
  go_upto_region 6 with fail
  rw [HW.out]
  go_wp2_with fail
  refine (float_pw K _).mono ?_; rintro e w' ⟨rfl, rfl⟩
  have hS1 := HR1.out.setX A (pw2 K) LAL.out HU1.out
  rw [HPQ.out] at hS1
  have HS1 := Hd.mk hS1
  have hS2 := HR2.out.same (w' := W.setCell ⟨g1, A * 3 + 2, none⟩ (.float .f64 (pw2 K))) (Below.heap_setCell _ _ _ _ (Ne.symm hne))
  have HS2 := Hd.mk hS2
  obtain ⟨y1, y2, y3⟩ := hS2.cell A LAL.out
  obtain ⟨s1, s2, s3, s4⟩ := hS2.asks A ⟨pb, pa, pw2 J⟩ LAL.out
  have fz2 := hS2.frozen
  have HS3 := Hd.mk (hS2.set A ⟨pb, pa, pw2 J⟩ LAL.out HOK2.out)
  have hr1 := World.cell?_setCell_other W ⟨g1, A * 3 + 2, none⟩ (v := .float .f64 (pw2 K)) ⟨w2.heap.size, 0, none⟩ (by simp)
  have hr2 := World.cell?_setCell_other W ⟨g1, A * 3 + 2, none⟩ (v := .float .f64 (pw2 K)) ⟨w2.heap.size, 1, none⟩ (by simp)
  rw [q0] at hr1
  rw [q1] at hr2
  have BS : Hd (Below w.heap.size w (W.setCell ⟨g1, A * 3 + 2, none⟩ (.float .f64 (pw2 K)))) := ⟨BW.out.setCell (p := ⟨g1, A * 3 + 2, none⟩) HG1.out _⟩
  clear hS1 hS2 q0 q1 q2 HR1 HR2
  dsimp only at s1 s2 s3 s4
  go_upto_region 7 with fail
  clear x1 fz1
  generalize W.setCell ⟨g1, A * 3 + 2, none⟩ (.float .f64 (pw2 K)) = U at *
  have v0 : IntKind.i64.wrap (J : Int) = J := by rw [IntKind.wrap_i64]; omega
  have v3 : IntKind.u64.wrap ((J : Int) * 4503599627370496) = (J : Int) * 4503599627370496 := by rw [IntKind.wrap_u64]; omega
  have p1 : U.drew.cell? ⟨w2.heap.size, 0, none⟩ = some (.int .i64 pa) := hr1
  have p2 : U.drew.cell? ⟨w2.heap.size, 1, none⟩ = some (.int .i64 pb) := hr2
  have hgw : w2.heap.size ≠ g2 := by omega
  have p3 : (((U.drew.setCell ⟨g2, A * 3, none⟩ (.int .i64 pb)).setCell ⟨g2, A * 3 + 1, none⟩ (.int .i64 pa)).setCell ⟨g2, A * 3 + 2, none⟩ (.float .f64 (pw2 J))).cell? ⟨w2.heap.size, 0, none⟩ = some (.int .i64 pa) :=
    (World.cell?_of_block (w := U.drew) (w' := set3 U.drew g2 A ⟨pb, pa, pw2 J⟩) (a := ⟨w2.heap.size, 0, none⟩) (set3_block U.drew g2 A ⟨pb, pa, pw2 J⟩ hgw)).trans p1
  have p4 : (((U.drew.setCell ⟨g2, A * 3, none⟩ (.int .i64 pb)).setCell ⟨g2, A * 3 + 1, none⟩ (.int .i64 pa)).setCell ⟨g2, A * 3 + 2, none⟩ (.float .f64 (pw2 J))).cell? ⟨w2.heap.size, 1, none⟩ = some (.int .i64 pb) :=
    (World.cell?_of_block (w := U.drew) (w' := set3 U.drew g2 A ⟨pb, pa, pw2 J⟩) (a := ⟨w2.heap.size, 1, none⟩) (set3_block U.drew g2 A ⟨pb, pa, pw2 J⟩ hgw)).trans p2
  go_region_held3 (fun w' => w'.cell? ⟨w2.heap.size, 0, none⟩ = some (.int .i64 pa) ∧ w'.cell? ⟨w2.heap.size, 1, none⟩ = some (.int .i64 pb)) (first | exact ⟨p1, p2⟩ | exact ⟨p3, p4⟩ | (refine ⟨?_, ?_⟩ <;> go_simp)) (first | (
    (try go_simp); (try simp only [v0, w2', v3]); go_at_call 25; refine (float_pw J _).mono ?_; rintro en w' ⟨rfl, rfl⟩))
  have r1 : PRow (((U.setCell ⟨g2, A * 3, none⟩ (.int .i64 pb)).setCell ⟨g2, A * 3 + 1, none⟩ (.int .i64 pa)).setCell ⟨g2, A * 3 + 2, none⟩ (.float .f64 (pw2 J))).drew g1 cap1 (l.set A ⟨pa, pb, pw2 K⟩) := HS1.out.same (set3_block U g2 A ⟨pb, pa, pw2 J⟩ hne)
  have r2 : PRow (((U.setCell ⟨g2, A * 3, none⟩ (.int .i64 pb)).setCell ⟨g2, A * 3 + 1, none⟩ (.int .i64 pa)).setCell ⟨g2, A * 3 + 2, none⟩ (.float .f64 (pw2 J))).drew g2 cap2 (l.set A ⟨pb, pa, pw2 J⟩) := HS3.out.same rfl
  have r3 : Below w.heap.size w (((U.setCell ⟨g2, A * 3, none⟩ (.int .i64 pb)).setCell ⟨g2, A * 3 + 1, none⟩ (.int .i64 pa)).setCell ⟨g2, A * 3 + 2, none⟩ (.float .f64 (pw2 J))).drew := (set3_below BS.out HG2.out A ⟨pb, pa, pw2 J⟩).drew
  clear p1 p2 p3 p4 s1 s2 s3 s4 y1 y2 y3 fz2 hr1 hr2 v0 v3 w1' w2' HS1 HS2 HS3 BS HW BW hgw
  generalize (((U.setCell ⟨g2, A * 3, none⟩ (.int .i64 pb)).setCell ⟨g2, A * 3 + 1, none⟩ (.int .i64 pa)).setCell ⟨g2, A * 3 + 2, none⟩ (.float .f64 (pw2 J))).drew = V at *
  have HNA := Hd.mk (fxNew_any (some ⟨g1, 0, none⟩) _ cap1 V r1.prs)
  have HNB := Hd.mk fun w' (hb : Below V.heap.size V w') => fxNew_any (some ⟨g2, 0, none⟩) _ cap2 w' (r2.prs.below hb)
  have hla := TW.out.la.trans HN.out
  have hlb := TW.out.lb.trans HN.out
  rw [hla] at HNA
  rw [hlb] at HNB
  have B0 := Hd.mk r3
  unfold NewRet at HNA HNB
  clear r1 r2 r3 hla hlb HOK2 HU1 HPQ LAL HG1 HG2 hne hg1lt hg2lt hs2 c1 c2 c3 lA lA' A0 h3 d1 d2 d3 d4 d5 hK hJ hK2 hJ2 hp1 hp2 _h1 _h2
  generalize l.set A ⟨pa, pb, pw2 K⟩ = LA at *
  generalize l.set A ⟨pb, pa, pw2 J⟩ = LB at *
  go_upto_region 8 with fail
  go_wp2_with fail
  refine HNA.out.mono ?_
  rintro e w3 ⟨⟨hz, tb, rfl, htb, ht⟩ | ⟨hz, rfl⟩, hb⟩
  rotate_left
  · have B1 := Hd.mk (B0.out.trans (hb.mono B0.out.size))
    have e1 : ((newA LA).1 != 0) = true := by rw [bne_iff_ne]; exact hz
    have e2 : ((newA LA).1 == 0) = false := by rw [beq_eq_false_iff_ne]; exact hz
    have HF : Hd ((newA LB).1 ≠ 0) := ⟨fun h => hz (TW.out.err.2 h)⟩
    have HM2 := Hd.mk (HNB.out _ hb)
    generalize (newA LA).1 = E at *
    generalize (((newA LA).2 : Nat) : Int) = j at *
    clear hz hb
    go_wp2_with fail
    refine HM2.out.mono ?_
    rintro e w4 ⟨⟨hz, _⟩ | ⟨hz, rfl⟩, hb⟩
    · exact absurd hz HF.out
    have B2 := Hd.mk (B1.out.trans (hb.mono B1.out.size))
    have f2 : ((newA LB).1 == 0) = false := by rw [beq_eq_false_iff_ne]; exact hz
    generalize (newA LB).1 = F at *
    generalize (((newA LB).2 : Nat) : Int) = j2 at *
    clear hz hb
    go_wp2_with fail
    refine (awake23_any _).mono ?_; rintro e w5 ⟨rfl, hb⟩
    have B3 := Hd.mk (B2.out.trans (hb.mono B2.out.size))
    clear hb
    go_wp2_with fail
    go_ret
    exact ⟨rfl, B3.out⟩
  have G := Hd.mk ((newA_iff TW.out.wa).1 hz).2
  have GM := Hd.mk (TW.out.cr G.out).1
  have HC := Hd.mk (TW.out.cr G.out).2
  have HF : Hd ((newA LB).1 = 0) := ⟨TW.out.err.1 hz⟩
  have HM2 := Hd.mk (HNB.out _ hb)
  have B1 := Hd.mk (B0.out.trans (hb.mono B0.out.size))
  have T1 := Hd.mk ht.tab
  clear hz hb ht htb HNA HNB
  go_wp2_with fail
  refine HM2.out.mono ?_
  rintro e w4 ⟨⟨_, ub, rfl, _, ht⟩ | ⟨hz, rfl⟩, hb⟩
  rotate_left
  · exact absurd HF.out hz
  have B2 := Hd.mk (B1.out.trans (hb.mono B1.out.size))
  have T2 := Hd.mk (T1.out.below hb)
  have U2 := Hd.mk ht.tab
  clear hb ht HM2 HF T1 B1 B0 TW
  go_wp2_with fail
  go_loopw [18] (fun iv wr => ∃ a : Nat, a ≤ 9 ∧ 1 ≤ a ∧ iv = .int .i64 a ∧ Hd (TabIs wr tb LA) ∧ Hd (TabIs wr ub LB) ∧ Hd (Below w.heap.size w wr)) (fun iv _ => 9 - (intOf iv).toNat)
  case atStart => exact ⟨1, by decide, by decide, rfl, T2, U2, B2⟩
  case round =>
    clear T2 U2 B2
    obtain ⟨a, ha, ha1, rfl, T, U, B⟩ := hrel
    by_cases hlt : a ≤ 8
    · have hla : (a : Int) ≤ 8 := by omega
      go_wp2_with fail
      go_loopw [19] (fun iv wr => ∃ b : Nat, b ≤ 9 ∧ 1 ≤ b ∧ iv = .int .i64 b ∧ Hd (TabIs wr tb LA) ∧ Hd (TabIs wr ub LB) ∧ Hd (Below w.heap.size w wr)) (fun iv _ => 9 - (intOf iv).toNat)
      case atStart => exact ⟨1, by decide, by decide, rfl, T, U, B⟩
      case round =>
        clear T U B
        obtain ⟨b, hb, hb1, rfl, T, U, B⟩ := hrel
        by_cases hlb : b ≤ 8
        · have hlb' : (b : Int) ≤ 8 := by omega
          have HX := Hd.mk (cross_any LA G.out tb a b wr T.out)
          have HY := Hd.mk fun w1 h => cross_any LB GM.out ub a b w1 h
          rw [← HC.out a b] at HY
          unfold CrsRet at HX HY
          have HJ1 := Hd.mk fun w1 h => joined_any LA G.out tb a b w1 h
          have HJ2 := Hd.mk fun w1 h => joined_any LA G.out tb b a w1 h
          have HJ3 := Hd.mk fun w1 h => joined_any LA G.out tb b cc w1 h
          have HJ4 := Hd.mk fun w1 h => joined_any LA G.out tb a cc w1 h
          have hsy := jnT_symm LA G.out a b
          have HTr : Hd (1 ≤ cc ∧ cc ≤ 8 → (jnT LA a b).1 = true → (jnT LA b cc).1 = true → (jnT LA a cc).1 = true) := ⟨fun hc => jnT_trans LA G.out (by omega) hc⟩
          generalize crsT LA (a : Int) (b : Int) = R at *
          generalize jnT LA (a : Int) (b : Int) = J1 at *
          generalize jnT LA (b : Int) (a : Int) = J2 at *
          generalize jnT LA (b : Int) cc = J3 at *
          generalize jnT LA (a : Int) cc = J4 at *
          obtain ⟨x, e⟩ := R
          obtain ⟨u, e1⟩ := J1
          obtain ⟨v, e2⟩ := J2
          obtain ⟨s, e3⟩ := J3
          obtain ⟨z, e4⟩ := J4
          dsimp only at HX HY HJ1 HJ2 HJ3 HJ4 hsy HTr
          subst hsy
          have x1 : (e != e) = false := by simp
          have x2 : ((x : Int) != (x : Int)) = false := by simp
          clear hlt hlb
          go_wp2_with fail
          refine HX.out.mono ?_; rintro e5 w4 ⟨rfl, hb4⟩
          have B4 := Hd.mk (B.out.trans (hb4.mono B.out.size))
          have T4 := Hd.mk (T.out.below hb4)
          have U4 := Hd.mk (U.out.below hb4)
          clear hb4 T U B HX
          go_wp2_with fail
          refine (HY.out _ U4.out).mono ?_; rintro e6 w5 ⟨rfl, hb5⟩
          have B5 := Hd.mk (B4.out.trans (hb5.mono B4.out.size))
          have T5 := Hd.mk (T4.out.below hb5)
          have U5 := Hd.mk (U4.out.below hb5)
          clear hb5 T4 U4 B4 HY
          go_wp2_with fail
          refine (HJ1.out _ T5.out).mono ?_; rintro e7 w6 ⟨rfl, hb⟩
          have B6 := Hd.mk (B5.out.trans (hb.mono B5.out.size))
          have T6 := Hd.mk (T5.out.below hb)
          have U6 := Hd.mk (U5.out.below hb)
          clear hb T5 U5 B5 HJ1
          go_wp2_with fail
          refine (HJ2.out _ T6.out).mono ?_; rintro e8 w7 ⟨rfl, hb⟩
          have B7 := Hd.mk (B6.out.trans (hb.mono B6.out.size))
          have T7 := Hd.mk (T6.out.below hb)
          have U7 := Hd.mk (U6.out.below hb)
          have x4 : (u != u) = false := by cases u <;> rfl
          clear hb T6 U6 B6 HJ2
          go_wp2_with fail
          refine (apiBits_any _ _).mono ?_; rintro e9 w8 ⟨rfl, rfl⟩
          go_wp2_with fail
          refine (apiBits_any _ _).mono ?_; rintro e9 w8 ⟨rfl, rfl⟩
          go_upto_region 26 with fail
          by_cases hc1 : 1 ≤ cc
          · by_cases hc2 : cc ≤ 8
            · go_wp2_with fail
              refine (HJ3.out _ T7.out).mono ?_; rintro e10 w9 ⟨rfl, hb⟩
              have B8 := Hd.mk (B7.out.trans (hb.mono B7.out.size))
              have T8 := Hd.mk (T7.out.below hb)
              have U8 := Hd.mk (U7.out.below hb)
              clear hb T7 U7 B7
              go_wp2_with fail
              refine (HJ4.out _ T8.out).mono ?_; rintro e11 w10 ⟨rfl, hb⟩
              have B9 := Hd.mk (B8.out.trans (hb.mono B8.out.size))
              have T9 := Hd.mk (T8.out.below hb)
              have U9 := Hd.mk (U8.out.below hb)
              have htr := HTr.out ⟨hc1, hc2⟩
              clear hb T8 U8 B8
              cases u
              · go_wp2_with fail
                exact ⟨⟨b + 1, by omega, by omega, by go_num, T9, U9, B9⟩, by simp [intOf]; omega⟩
              · cases s
                · go_wp2_with fail
                  exact ⟨⟨b + 1, by omega, by omega, by go_num, T9, U9, B9⟩, by simp [intOf]; omega⟩
                · have hz := htr rfl rfl
                  subst hz
                  go_wp2_with fail
                  exact ⟨⟨b + 1, by omega, by omega, by go_num, T9, U9, B9⟩, by simp [intOf]; omega⟩
            · have hc3 : decide (cc ≤ 8) = false := by simpa using hc2
              clear hc2
              go_wp2_with fail
              exact ⟨⟨b + 1, by omega, by omega, by go_num, T7, U7, B7⟩, by simp [intOf]; omega⟩
          · have hc3 : decide (cc ≥ 1) = false := by simpa using hc1
            clear hc1
            go_wp2_with fail
            exact ⟨⟨b + 1, by omega, by omega, by go_num, T7, U7, B7⟩, by simp [intOf]; omega⟩
        · have hlb' : ¬ (b : Int) ≤ 8 := by omega
          go_wp2_with fail
          exact ⟨⟨a + 1, by omega, by omega, by go_num, T, U, B⟩, by simp [intOf]; omega⟩
    · have hla : ¬ (a : Int) ≤ 8 := by omega
      go_wp2_with fail
      refine (awake23_any _).mono ?_; rintro e w4 ⟨rfl, hb⟩
      have B4 := Hd.mk (B.out.trans (hb.mono B.out.size))
      clear hb
      go_wp2_with fail
      go_ret
      exact ⟨rfl, B4.out⟩

end Go.Proofs.Ythddkfkgnkbpnaa
