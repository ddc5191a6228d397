/- InterpTurns' walk. -/
import Derived.Test.YteikihidblcljaaWkC
import Derived.Test.YteikihidblcljaaUnC
namespace Go.Proofs.Yteikihidblcljaa
open Go.RowKit
set_option linter.unusedSimpArgs false
set_option linter.unusedVariables false

theorem neg_flipT (x : Nat) (hx : F64 x) : Op.negFloat .f64 x = flip64 x := by
  have h := xor_sign x hx
  have := u64_xor_nat x 9223372036854775808 hx.out (by decide)
  rw [show ((9223372036854775808 : Nat) : Int) = 9223372036854775808 from rfl] at this
  rw [this] at h
  have e : Op.negFloat .f64 x = x ^^^ 9223372036854775808 := rfl
  rw [e]; omega
theorem rk_flipT (x : Nat) : rk (flip64 x) = -rk x := by
  unfold rk
  rw [mg_flip, ng_flip]
  cases ng x <;> simp
/-- A number's size: the higher of it and of it turned. -/
theorem size_run {y : Nat} (hy : F64 y) (fy : fin y = true) :
    ∃ m, (∀ (P : Program) ts t w, (Builtin.max_ ts t #[.float .f64 y, .float .f64 (Op.negFloat .f64 y)]).run P w = .ok (.float .f64 m) w) ∧ F64 m ∧ nn m = false ∧ rk m = mg y := by
  rw [neg_flipT y hy]
  obtain ⟨m, h1, h2, h3, h4⟩ := fmax_run y (flip64 y) hy (F64_flip y) (nn_fin _ fy) (by rw [nn_flip]; exact nn_fin _ fy)
  refine ⟨m, h1, h2, h3, ?_⟩
  rw [h4, rk_flipT]
  unfold rk
  split <;> omega
theorem op_eqB {a b : Nat} (o : Op a b) : (FloatKind.f64.format.order a (Op.negFloat .f64 b) != some .eq) = false := by
  unfold bne
  rw [neg_flipT b o.fy, feq _ _ o.fx (F64_flip b), nn_flip, o.nx, o.ny, rk_flipT, o.rk]
  simp
theorem tw_eqB {a c : Nat} (t : Tw a c) : (FloatKind.f64.format.order c (fmul two64f a) == some .eq) = true := by
  rw [feq _ _ t.fy (F64_fmul _ _), nn_fin _ t.finy, (rk_fmul two64f a two_ok.1 t.fx two_ok.2.1 t.finx).2, tw_two t]
  simp
theorem lim_ok : F64 553942754166571008 ∧ nn 553942754166571008 = false ∧ rk 553942754166571008 = 553942754166571008 ∧ F64 8660422083433463808 ∧ nn 8660422083433463808 = false ∧ rk 8660422083433463808 = 8660422083433463808 ∧ F64 0 ∧ nn 0 = false ∧ rk 0 = 0 :=
  ⟨⟨by decide⟩, by decide +kernel, by decide +kernel, ⟨by decide⟩, by decide +kernel, by decide +kernel, ⟨by decide⟩, by decide +kernel, by decide +kernel⟩

/-- What the walk asks about a number's size. -/
theorem size_asks {y m : Nat} (hy : F64 y) (h2 : F64 m) (h3 : nn m = false) (h4 : rk m = mg y) :
    ∃ d0 d1 d2 : Bool, (FloatKind.f64.format.order m 0 != some .eq) = !d0 ∧ (FloatKind.f64.format.order m 553942754166571008 == some .lt) = d1 ∧ (FloatKind.f64.format.order m 8660422083433463808 == some .gt) = d2 ∧ ((d0 = true ∨ (d1 = false ∧ d2 = false)) → Rg y 123 1923) := by
  obtain ⟨l1, l2, l3, l4, l5, l6, l7, l8, l9⟩ := lim_ok
  refine ⟨decide (rk m = 0), decide (rk m < 553942754166571008), decide (8660422083433463808 < rk m), ?_, ?_, ?_, fun h => rg_size hy h4 ?_⟩
  · unfold bne; rw [feq m 0 h2 l7, h3, l8, l9]; simp
  · rw [flt m _ h2 l1, h3, l2, l3]; simp
  · rw [fgt m _ h2 l4, h3, l5, l6]; simp
  · simpa using h

set_option maxHeartbeats 12800000 in
set_option maxRecDepth 100000 in
theorem interpTurns_any (kind : Int) (ax : Option Addr) (X : List Int) (cx : Nat) (ay : Option Addr) (Y : List Nat) (cy : Nat) (x : Int) (w : World) (_hk : -9223372036854775808 ≤ kind ∧ kind ≤ 9223372036854775807) (ht : Tbl w ax X ay Y) (_hrx : Room ax X.length cx) (hry : Room ay Y.length cy) (_hx : (Lit.int .i64 x).wf = true) :
    Calls Try.prog 4 #[.agg #[.int .i64 kind, .slice ax X.length cx, .slice ay Y.length cy], .int .i64 x] w fun e w' => e = .returned (.bool true) ∧ Below w.heap.size w w' := by
  have HC := Hd.mk fun w1 h => check_any kind ax X cx ay Y cy w1 h
  have HA := Hd.mk fun w1 h => at_any10 kind ax X cx ay Y cy x w1 h hry
  obtain ⟨W, hW, b1, b2⟩ := box_t w kind ax X.length cx ay Y.length cy
  obtain ⟨y0, y1, y2⟩ := b1.cell
  have B1 := Hd.mk b1
  have B2 := Hd.mk b2
  have T := Hd.mk (ht.belowK b2)
  by_cases hkd : kind = 2 ∨ kind = 3
  rotate_left
  · have e1 : (kind != 2) = true := by rw [bne_iff_ne]; omega
    have e2 : (kind != 3) = true := by rw [bne_iff_ne]; omega
    generalize X.length = n at *
    generalize Y.length = m at *
    clear b1 b2 ht hkd
    go_enter Try.func4, Try.ntmps4
    go_upto_region 1 with fail
    clear hW
    go_wp2_with fail
    refine (awake10_any _).mono ?_; rintro e w3 ⟨rfl, hb⟩
    have C3 := Hd.mk (B2.out.trans (hb.mono B2.out.size))
    clear hb
    go_wp2_with fail
    go_ret
    exact ⟨rfl, C3.out⟩
  by_cases h40 : X.length ≤ 40
  rotate_left
  · have d40 : ¬ ((X.length : Int) ≤ 40) := by omega
    generalize X.length = n at *
    generalize Y.length = m at *
    clear b1 b2 ht h40
    rcases hkd with rfl | rfl
    all_goals
      go_enter Try.func4, Try.ntmps4
      go_upto_region 1 with fail
      clear hW
      go_wp2_with fail
      refine (awake10_any _).mono ?_; rintro e w3 ⟨rfl, hb⟩
      have C3 := Hd.mk (B2.out.trans (hb.mono B2.out.size))
      clear hb
      go_wp2_with fail
      go_ret
      exact ⟨rfl, C3.out⟩
  have d40 : (X.length : Int) ≤ 40 := by omega
  by_cases hc : chkT kind X Y = 0
  rotate_left
  · have d1 : (chkT kind X Y != 0) = true := by rw [bne_iff_ne]; exact hc
    generalize chkT kind X Y = E at *
    generalize X.length = n at *
    generalize Y.length = m at *
    clear b1 b2 ht hc h40
    rcases hkd with rfl | rfl
    all_goals
      go_enter Try.func4, Try.ntmps4
      go_upto_region 1 with fail
      clear hW
      go_wp2_with fail
      refine (HC.out _ T.out).mono ?_; rintro e w1 ⟨rfl, hb⟩
      have C1 := Hd.mk (B2.out.trans (hb.mono B2.out.size))
      clear hb
      go_wp2_with fail
      refine (awake10_any _).mono ?_; rintro e w3 ⟨rfl, hb⟩
      have C3 := Hd.mk (C1.out.trans (hb.mono C1.out.size))
      clear hb
      go_wp2_with fail
      go_ret
      exact ⟨rfl, C3.out⟩
  have hw := ht.fy.wf
  obtain ⟨ok, kl, kh, k4⟩ := chk_ok hc hw
  have lyx := ok.ly
  have HPl := turn_tab (x := x) hkd hc hw (F64_mulY negO Y)
  have HTw := fun hr => twice_tab (x := x) hkd hc hw (F64_mulY two64f Y) hr
  rw [hc] at HC
  have HTn := Hd.mk fun m w1 (h : Tbl w1 ax X ay Y) (hm : F64 m) (fm : fin m = true) => turned10_any m kind ax X.length cx ay Y cy w1 h.fy (by rw [lyx]; exact ok.pos) (by rw [lyx]; have := ok.max; omega) hm fm (fun i hi => ok.fn i (by rw [lyx] at hi; exact hi))
  have HA1 := Hd.mk fun au cu m w1 (h : Tbl w1 ax X au (Y.map (fmul m))) (hr : Room au (Y.map (fmul m)).length cu) => at_any10 kind ax X cx au (Y.map (fmul m)) cu x w1 h hr
  have HFN := Hd.mk fun i (hi : i < X.length) => ok.fn i hi
  have HWF := Hd.mk hw
  have ixw := Hd.mk ht.ix
  unfold AtRet at HA HA1
  simp only [List.length_map] at HA1
  unfold TurnRet at HTn
  rw [lyx] at HC HA HA1 HTn B1 b1 y2 hW ⊢
  obtain ⟨n, hn⟩ : ∃ n, X.length = n := ⟨_, rfl⟩
  have HN := Hd.mk hn
  have HY := Hd.mk (lyx.trans hn)
  rw [hn] at HC HA HA1 HTn HFN B1 b1 y1 y2 hW d40 HTw ⊢
  obtain ⟨a, ha⟩ : ∃ a, (atT kind X Y x).1 = a := ⟨_, rfl⟩
  obtain ⟨E, hE⟩ : ∃ E, (atT kind X Y x).2 = E := ⟨_, rfl⟩
  have HA2 : Hd (∀ w1, Tbl w1 ax X ay Y → Calls Try.prog 31 #[.agg #[.int .i64 kind, .slice ax n cx, .slice ay n cy], .int .i64 x] w1 fun e w' => e = .returned (.tuple #[.float .f64 a, .int .i64 E]) ∧ Below w1.heap.size w1 w') := ⟨fun w1 h => by rw [← ha, ← hE]; exact HA.out w1 h⟩
  rw [ha, hE] at HPl
  have HTw2 : Hd ((∀ i, i < n → Rg (Y.getD i 0) 123 1923) → (atT kind X (Y.map (fmul two64f)) x).2 = E ∧ (E = 0 → Tw a (atT kind X (Y.map (fmul two64f)) x).1)) := ⟨fun h => by have := HTw h; rwa [ha, hE] at this⟩
  have H1 := Hd.mk (HA1.out (m := negO))
  have H2 := Hd.mk (HA1.out (m := two64f))
  have HT1 := Hd.mk fun w1 h => HTn.out negO w1 h neg_ok.1 neg_ok.2.1
  have HT2 := Hd.mk fun w1 h => HTn.out two64f w1 h two_ok.1 two_ok.2.1
  obtain ⟨b, hb⟩ : ∃ b, (atT kind X (Y.map (fmul negO)) x).1 = b := ⟨_, rfl⟩
  obtain ⟨E1, hE1⟩ : ∃ E1, (atT kind X (Y.map (fmul negO)) x).2 = E1 := ⟨_, rfl⟩
  obtain ⟨c, hcc⟩ : ∃ c, (atT kind X (Y.map (fmul two64f)) x).1 = c := ⟨_, rfl⟩
  obtain ⟨E2, hE2⟩ : ∃ E2, (atT kind X (Y.map (fmul two64f)) x).2 = E2 := ⟨_, rfl⟩
  rw [hb, hE1] at H1 HPl
  rw [hcc, hE2] at H2 HTw2
  generalize Y.map (fmul negO) = Y1 at *
  generalize Y.map (fmul two64f) = Y2 at *
  rw [show negO = 13830554455654793216 from rfl] at HT1
  rw [show two64f = 4611686018427387904 from rfl] at HT2
  have e1 : (E != E1) = false := by rw [HPl.1]; simp
  have hOp := Hd.mk HPl.2
  have n3 : (n : Int) ≤ 256 := by omega
  clear b1 b2 ht hc ok k4 HA HTw HPl HA1 HTn lyx hn hw ha hE hb hE1 hcc hE2 h40 kl kh
  have hk23 : ((kind != 2) = false) ∨ ((kind != 2) = true ∧ (kind != 3) = false) := by
    rcases hkd with h | h
    · exact Or.inl (by simp [h])
    · exact Or.inr ⟨by simp [h], by simp [h]⟩
  clear hkd
  rcases hk23 with ek2 | ⟨ek2, ek3⟩
  all_goals
    go_enter Try.func4, Try.ntmps4
    go_upto_region 1 with fail
    clear hW
    go_wp2_with fail
    refine (HC.out _ T.out).mono ?_; rintro e w1 ⟨rfl, hb⟩
    have C1 := Hd.mk (B2.out.trans (hb.mono B2.out.size))
    have T1 := Hd.mk (T.out.belowK hb)
    have U1 := Hd.mk (B1.out.below hb)
    clear hb y0 y1 y2
    obtain ⟨y0, y1, y2⟩ := U1.out.cell
    go_wp2_with fail
    refine (HA2.out _ T1.out).mono ?_; rintro e w2 ⟨rfl, hb⟩
    have C2 := Hd.mk (C1.out.trans (hb.mono C1.out.size))
    have T2 := Hd.mk (T1.out.belowK hb)
    have U2 := Hd.mk (U1.out.below hb)
    clear hb y0 y1 y2 C1 T1 U1
    obtain ⟨y0, y1, y2⟩ := U2.out.cell
    go_wp2_with fail
    refine (HT1.out _ T2.out).mono ?_; rintro e w3 ⟨au, cu, rfl, hf1, hr1, hb⟩
    have C3 := Hd.mk (C2.out.trans (hb.mono C2.out.size))
    have T3 := Hd.mk (T2.out.belowK hb)
    have U3 := Hd.mk (U2.out.below hb)
    have R3 := Hd.mk hr1
    have Q3 : Hd (Tbl w3 ax X au Y1) := ⟨⟨T3.out.ix, hf1⟩⟩
    clear hb y0 y1 y2 C2 T2 U2 hf1 hr1
    obtain ⟨y0, y1, y2⟩ := U3.out.cell
    go_wp2_with fail
    refine (H1.out _ _ _ Q3.out R3.out).mono ?_; rintro e w4 ⟨rfl, hb⟩
    have C4 := Hd.mk (C3.out.trans (hb.mono C3.out.size))
    have T4 := Hd.mk (T3.out.belowK hb)
    have U4 := Hd.mk (U3.out.below hb)
    clear hb y0 y1 y2 C3 T3 U3 Q3 R3
    by_cases hE0 : E = 0
    · have dE := beq_iff_eq.2 hE0
      have hq := op_eqB (hOp.out hE0)
      have HE0 := Hd.mk hE0
      clear hE0
      obtain ⟨y0, y1, y2⟩ := U4.out.cell
      go_wp2_with fail
      clear y0 y1 y2
      go_loopw [9] (fun iv wr => ∃ k : Nat, k ≤ n ∧ iv = .int .i64 k ∧ Hd (Tbl wr ax X ay Y) ∧ Hd (BoxT wr w.heap.size kind ax n cx ay n cy) ∧ Hd (Below w.heap.size w wr) ∧ Hd (∀ i, i < k → Rg (Y.getD i 0) 123 1923)) (fun iv _ => n - (intOf iv).toNat)
      case atStart => exact ⟨0, Nat.zero_le _, rfl, T4, U4, C4, ⟨fun i hi => absurd hi (Nat.not_lt_zero _)⟩⟩
      case round =>
        clear T4 U4 C4
        obtain ⟨k, hk, rfl, HT, HU, HB, HR⟩ := hrel
        obtain ⟨z0, z1, z2⟩ := HU.out.cell
        by_cases hlt : k < n
        · have hlt' : (k : Int) < n := by omega
          have k0 : (0 : Int) ≤ k := by omega
          obtain ⟨by_, oy, hay, c2⟩ := HT.out.fy.at k (by rw [HY.out]; exact hlt)
          subst hay
          obtain ⟨m, hm1, hm2, hm3, hm4⟩ := size_run (HWF.out k) (HFN.out k hlt)
          have hmax := hm1 Try.prog
          obtain ⟨d0, d1, d2, q0, q1, q2, hrg⟩ := size_asks (HWF.out k) hm2 hm3 hm4
          have HRk : Hd ((d0 = true ∨ (d1 = false ∧ d2 = false)) → ∀ i, i < k + 1 → Rg (Y.getD i 0) 123 1923) := ⟨fun h i hi => by
            by_cases e : i = k
            · rw [e]; exact hrg h
            · exact HR.out i (by omega)⟩
          generalize Y.getD k 0 = y at *
          clear hm1 hm2 hm3 hm4 hrg hlt HR
          go_wp2_with fail
          go_region_held3 (fun w' => w'.cell? ⟨w.heap.size, 2, none⟩ = some (.slice (some ⟨by_, oy, none⟩) n cy) ∧ w'.cell? ⟨by_, oy + k, none⟩ = some (.float .f64 y)) (first | exact ⟨z2, c2⟩ | (refine ⟨?_, ?_⟩ <;> go_simp)) (fail)
          have HTd : Hd (Tbl wr.drew ax X (some ⟨by_, oy, none⟩) Y) := ⟨HT.out.belowK (Below.refl _ _).drew⟩
          have HUd : Hd (BoxT wr.drew w.heap.size kind ax n cx (some ⟨by_, oy, none⟩) n cy) := ⟨HU.out⟩
          have HBd := Hd.mk HB.out.drew
          clear hmax z0 z1 z2 c2 HT HU HB
          generalize wr.drew = wd at *
          cases d0
          rotate_left
          · simp only [Bool.not_true] at q0
            have HRn := Hd.mk (HRk.out (Or.inl rfl))
            clear HRk q1 q2
            go_wp2_with fail
            exact ⟨⟨k + 1, by omega, by go_num, HTd, HUd, HBd, HRn⟩, by simp [intOf]; omega⟩
          simp only [Bool.not_false] at q0
          cases d1
          rotate_left
          · clear HRk q2
            go_wp2_with fail
            refine (awake10_any _).mono ?_; rintro e w3 ⟨rfl, hb⟩
            have C3 := Hd.mk (HBd.out.trans (hb.mono HBd.out.size))
            clear hb
            go_wp2_with fail
            go_ret
            exact ⟨rfl, C3.out⟩
          cases d2
          rotate_left
          · clear HRk
            go_wp2_with fail
            refine (awake10_any _).mono ?_; rintro e w3 ⟨rfl, hb⟩
            have C3 := Hd.mk (HBd.out.trans (hb.mono HBd.out.size))
            clear hb
            go_wp2_with fail
            go_ret
            exact ⟨rfl, C3.out⟩
          have HRn := Hd.mk (HRk.out (Or.inr ⟨rfl, rfl⟩))
          clear HRk
          go_wp2_with fail
          exact ⟨⟨k + 1, by omega, by go_num, HTd, HUd, HBd, HRn⟩, by simp [intOf]; omega⟩
        · obtain rfl : n = k := by omega
          have hge : ¬ (n : Int) < n := by omega
          obtain ⟨e2, htw⟩ := HTw2.out HR.out
          have e3 : (E2 == E) = true := beq_iff_eq.2 e2
          have dN : (E != 0) = false := by unfold bne; rw [dE]; rfl
          have tw := htw HE0.out
          have qeq := tw_eqB tw
          have hm1 : ∀ w' : World, fres .mul 4611686018427387904 a w' = fmul two64f a := fun w' => fres_mulT two_ok.1 tw.fx two_ok.2.1 tw.finx w'
          have hm2 : ∀ w' : World, w'.drewN (fcnt .mul 4611686018427387904 a) = w' := fun w' => fcnt_mulT two_ok.1 tw.fx two_ok.2.1 tw.finx w'
          generalize fmul two64f a = P at *
          clear tw
          clear hlt e2 htw HR HTw2
          go_wp2_with fail
          refine (HT2.out _ HT.out).mono ?_; rintro e w5 ⟨au, cu, rfl, hf1, hr1, hb⟩
          have C5 := Hd.mk (HB.out.trans (hb.mono HB.out.size))
          have T5 := Hd.mk (HT.out.belowK hb)
          have R5 := Hd.mk hr1
          have Q5 : Hd (Tbl w5 ax X au Y2) := ⟨⟨T5.out.ix, hf1⟩⟩
          clear hb z0 z1 z2 HB HT HU hf1 hr1 T5
          go_wp2_with fail
          refine (H2.out _ _ _ Q5.out R5.out).mono ?_; rintro e w6 ⟨rfl, hb⟩
          have C6 := Hd.mk (C5.out.trans (hb.mono C5.out.size))
          clear hb C5 Q5 R5
          go_wp2_with fail
          refine (awake10_any _).mono ?_; rintro e w7 ⟨rfl, hb⟩
          have C7 := Hd.mk (C6.out.trans (hb.mono C6.out.size))
          clear hb C6
          go_wp2_with fail
          go_ret
          exact ⟨rfl, C7.out⟩
    · have dE : (E == 0) = false := beq_eq_false_iff_ne.2 hE0
      have HE0 := Hd.mk hE0
      clear hE0
      obtain ⟨y0, y1, y2⟩ := U4.out.cell
      go_wp2_with fail
      clear y0 y1 y2
      go_loopw [9] (fun iv wr => ∃ k : Nat, k ≤ n ∧ iv = .int .i64 k ∧ Hd (Tbl wr ax X ay Y) ∧ Hd (BoxT wr w.heap.size kind ax n cx ay n cy) ∧ Hd (Below w.heap.size w wr) ∧ Hd (∀ i, i < k → Rg (Y.getD i 0) 123 1923)) (fun iv _ => n - (intOf iv).toNat)
      case atStart => exact ⟨0, Nat.zero_le _, rfl, T4, U4, C4, ⟨fun i hi => absurd hi (Nat.not_lt_zero _)⟩⟩
      case round =>
        clear T4 U4 C4
        obtain ⟨k, hk, rfl, HT, HU, HB, HR⟩ := hrel
        obtain ⟨z0, z1, z2⟩ := HU.out.cell
        by_cases hlt : k < n
        · have hlt' : (k : Int) < n := by omega
          have k0 : (0 : Int) ≤ k := by omega
          obtain ⟨by_, oy, hay, c2⟩ := HT.out.fy.at k (by rw [HY.out]; exact hlt)
          subst hay
          obtain ⟨m, hm1, hm2, hm3, hm4⟩ := size_run (HWF.out k) (HFN.out k hlt)
          have hmax := hm1 Try.prog
          obtain ⟨d0, d1, d2, q0, q1, q2, hrg⟩ := size_asks (HWF.out k) hm2 hm3 hm4
          have HRk : Hd ((d0 = true ∨ (d1 = false ∧ d2 = false)) → ∀ i, i < k + 1 → Rg (Y.getD i 0) 123 1923) := ⟨fun h i hi => by
            by_cases e : i = k
            · rw [e]; exact hrg h
            · exact HR.out i (by omega)⟩
          generalize Y.getD k 0 = y at *
          clear hm1 hm2 hm3 hm4 hrg hlt HR
          go_wp2_with fail
          go_region_held3 (fun w' => w'.cell? ⟨w.heap.size, 2, none⟩ = some (.slice (some ⟨by_, oy, none⟩) n cy) ∧ w'.cell? ⟨by_, oy + k, none⟩ = some (.float .f64 y)) (first | exact ⟨z2, c2⟩ | (refine ⟨?_, ?_⟩ <;> go_simp)) (fail)
          have HTd : Hd (Tbl wr.drew ax X (some ⟨by_, oy, none⟩) Y) := ⟨HT.out.belowK (Below.refl _ _).drew⟩
          have HUd : Hd (BoxT wr.drew w.heap.size kind ax n cx (some ⟨by_, oy, none⟩) n cy) := ⟨HU.out⟩
          have HBd := Hd.mk HB.out.drew
          clear hmax z0 z1 z2 c2 HT HU HB
          generalize wr.drew = wd at *
          cases d0
          rotate_left
          · simp only [Bool.not_true] at q0
            have HRn := Hd.mk (HRk.out (Or.inl rfl))
            clear HRk q1 q2
            go_wp2_with fail
            exact ⟨⟨k + 1, by omega, by go_num, HTd, HUd, HBd, HRn⟩, by simp [intOf]; omega⟩
          simp only [Bool.not_false] at q0
          cases d1
          rotate_left
          · clear HRk q2
            go_wp2_with fail
            refine (awake10_any _).mono ?_; rintro e w3 ⟨rfl, hb⟩
            have C3 := Hd.mk (HBd.out.trans (hb.mono HBd.out.size))
            clear hb
            go_wp2_with fail
            go_ret
            exact ⟨rfl, C3.out⟩
          cases d2
          rotate_left
          · clear HRk
            go_wp2_with fail
            refine (awake10_any _).mono ?_; rintro e w3 ⟨rfl, hb⟩
            have C3 := Hd.mk (HBd.out.trans (hb.mono HBd.out.size))
            clear hb
            go_wp2_with fail
            go_ret
            exact ⟨rfl, C3.out⟩
          have HRn := Hd.mk (HRk.out (Or.inr ⟨rfl, rfl⟩))
          clear HRk
          go_wp2_with fail
          exact ⟨⟨k + 1, by omega, by go_num, HTd, HUd, HBd, HRn⟩, by simp [intOf]; omega⟩
        · obtain rfl : n = k := by omega
          have hge : ¬ (n : Int) < n := by omega
          obtain ⟨e2, htw⟩ := HTw2.out HR.out
          have e3 : (E2 == E) = true := beq_iff_eq.2 e2
          have dN : (E != 0) = true := by unfold bne; rw [dE]; rfl
          clear hlt e2 htw HR HTw2
          go_wp2_with fail
          refine (HT2.out _ HT.out).mono ?_; rintro e w5 ⟨au, cu, rfl, hf1, hr1, hb⟩
          have C5 := Hd.mk (HB.out.trans (hb.mono HB.out.size))
          have T5 := Hd.mk (HT.out.belowK hb)
          have R5 := Hd.mk hr1
          have Q5 : Hd (Tbl w5 ax X au Y2) := ⟨⟨T5.out.ix, hf1⟩⟩
          clear hb z0 z1 z2 HB HT HU hf1 hr1 T5
          go_wp2_with fail
          refine (H2.out _ _ _ Q5.out R5.out).mono ?_; rintro e w6 ⟨rfl, hb⟩
          have C6 := Hd.mk (C5.out.trans (hb.mono C5.out.size))
          clear hb C5 Q5 R5
          go_wp2_with fail
          refine (awake10_any _).mono ?_; rintro e w7 ⟨rfl, hb⟩
          have C7 := Hd.mk (C6.out.trans (hb.mono C6.out.size))
          clear hb C6
          go_wp2_with fail
          go_ret
          exact ⟨rfl, C7.out⟩

end Go.Proofs.Yteikihidblcljaa
