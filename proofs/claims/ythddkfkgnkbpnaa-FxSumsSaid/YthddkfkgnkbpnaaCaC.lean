/- The walk of tenorlaw23's FxOrder. -/
import Derived.Test.YthddkfkgnkbpnaaM20
import Derived.Test.YthddkfkgnkbpnaaM19
import Derived.Test.YthddkfkgnkbpnaaM15
import Derived.Test.YthddkfkgnkbpnaaM1
import Derived.Test.YthddkfkgnkbpnaaM6
import Derived.Deep.RegionHeld3
namespace Go.Proofs.Ythddkfkgnkbpnaa
open Go.RowKit
set_option linter.unusedSimpArgs false
set_option linter.unusedVariables false

theorem tabIs_heap {w w' : World} {b : Nat} {L : List Pr} (h : TabIs w b L) (e : w'.heap = w.heap) : TabIs w' b L := by
  have hc : ∀ x, w'.cell? x = w.cell? x := fun x => by unfold World.cell?; rw [e]
  obtain ⟨ad, c, h1, h2⟩ := h.ex
  exact ⟨ad, c, (hc _).trans h1, ⟨fun k hk => by
    obtain ⟨b', o, e', c1, c2, c3⟩ := h2.cell k hk
    exact ⟨b', o, e', (hc _).trans c1, (hc _).trans c2, (hc _).trans c3⟩, h2.wf, h2.rg, h2.len⟩⟩
theorem ins_belowW {w w' : World} {a : Option Addr} {l : List Int} (h : Ins w a l) (hb : Below w.heap.size w w') : Ins w' a l where
  cell := fun k hk => by
    obtain ⟨b, o, e, c⟩ := h.cell k hk
    exact ⟨b, o, e, (hb.cell (p := ⟨b, o + k, none⟩) (World.block_lt_of_cell? _ _ c)).trans c⟩
  wf := h.wf
  len := h.len

set_option maxHeartbeats 3200000 in
set_option maxRecDepth 100000 in
theorem fxOrder_any (ad : Option Addr) (l : List Pr) (c : Nat) (a' : Option Addr) (by_ : List Int) (c' : Nat) (w : World) (hl : Prs w ad l) (hr : Room ad l.length c) (hy : Ins w a' by_) (hr' : Room a' by_.length c') :
    Calls Try.prog 4 #[.slice ad l.length c, .slice a' by_.length c'] w fun e w' => e = .returned (.bool true) ∧ Below w.heap.size w w' := by
  have hlen := hl.len
  by_cases h28 : 28 < l.length
  · have d1 : decide ((l.length : Int) > 28) = true := by simp; omega
    generalize l.length = n at *
    generalize by_.length = m at *
    clear h28 hl hy hr hr'
    go_enter Try.func4, Try.ntmps4
    go_wp2_with fail
    refine (awake23_any _).mono ?_; rintro e w1 ⟨rfl, hb⟩
    have B := Hd.mk hb
    clear hb
    go_wp2_with fail
    go_ret
    exact ⟨rfl, B.out⟩
  have d1 : decide ((l.length : Int) > 28) = false := by simp; omega
  have HNw := Hd.mk (fxNew_any ad l c w hl)
  have HMx := Hd.mk fun w1 (hb : Below w.heap.size w w1) => mixed_any ad l c a' by_ c' w1 (hl.below hb) (ins_belowW hy hb) hr.nil (by omega)
  have HWf := Hd.mk hl.wf
  have HL := Hd.mk hl
  unfold NewRet at HNw
  unfold MxRet at HMx
  have HNA := Hd.mk fun (m : List Pr) (h : m.Perm l) => newA_perm h.symm hl.wf
  have HGD := Hd.mk (newA_iff hl.wf)
  generalize hm : by_.length = ny at *
  generalize hn : l.length = n at *
  have HN := Hd.mk hn
  clear h28 hl hy hr hr' hm hn
  go_enter Try.func4, Try.ntmps4
  go_wp2_with fail
  refine HNw.out.mono ?_
  rintro e w1 ⟨⟨hz, tb, rfl, htb, ht⟩ | ⟨hz, rfl⟩, hb⟩
  rotate_left
  · have HZ := Hd.mk hz
    have B1 := Hd.mk hb
    have e1 : ((newA l).1 != 0) = true := by rw [bne_iff_ne]; exact hz
    have e2 : ((newA l).1 == 0) = false := by rw [beq_eq_false_iff_ne]; exact hz
    obtain ⟨E, hE⟩ : ∃ E, (newA l).1 = E := ⟨_, rfl⟩
    rw [hE] at e1 e2 ⊢
    generalize (((newA l).2 : Nat) : Int) = j at *
    clear hz hb hE
    go_wp2_with fail
    refine (HMx.out _ B1.out).mono ?_; rintro e w2 ⟨a2, c2, m, rfl, hp, hm, hb⟩
    have B2 := Hd.mk (B1.out.trans (hb.mono B1.out.size))
    have HF : Hd ((newA m).1 ≠ 0) := ⟨fun h => HZ.out (((HNA.out m hp).2).2 h)⟩
    have HM2 := Hd.mk (fxNew_any a2 m c2 w2 hm)
    rw [hp.length_eq, HN.out] at HM2
    unfold NewRet at HM2
    clear hp hm hb
    go_wp2_with fail
    refine HM2.out.mono ?_
    rintro e w3 ⟨⟨hz, _⟩ | ⟨hz, rfl⟩, hb⟩
    · exact absurd hz HF.out
    have B3 := Hd.mk (B2.out.trans (hb.mono B2.out.size))
    have f2 : ((newA m).1 == 0) = false := by rw [beq_eq_false_iff_ne]; exact hz
    generalize (newA m).1 = F at *
    generalize (((newA m).2 : Nat) : Int) = j2 at *
    clear hz hb
    go_wp2_with fail
    refine (awake23_any _).mono ?_; rintro e w4 ⟨rfl, hb⟩
    have B4 := Hd.mk (B3.out.trans (hb.mono B3.out.size))
    clear hb
    go_wp2_with fail
    go_ret
    exact ⟨rfl, B4.out⟩
  have HZ := Hd.mk hz
  have G := Hd.mk (HGD.out.1 hz).2
  have T1 := Hd.mk ht.tab
  have B1 := Hd.mk hb
  clear hz hb ht htb
  go_wp2_with fail
  refine (HMx.out _ B1.out).mono ?_; rintro e w2 ⟨a2, c2, m, rfl, hp, hm, hb⟩
  have B2 := Hd.mk (B1.out.trans (hb.mono B1.out.size))
  have T2 := Hd.mk (T1.out.below hb)
  have HF : Hd ((newA m).1 = 0) := ⟨((HNA.out m hp).2).1 HZ.out⟩
  have HM2 := Hd.mk (fxNew_any a2 m c2 w2 hm)
  have GM := Hd.mk (Good.perm hp.symm G.out)
  have HC := Hd.mk fun a b => crsT_perm hp.symm G.out.tree.uq a b
  rw [hp.length_eq, HN.out] at HM2
  unfold NewRet at HM2
  clear hp hm hb
  go_wp2_with fail
  refine HM2.out.mono ?_
  rintro e w3 ⟨⟨_, ub, rfl, _, ht⟩ | ⟨hz, rfl⟩, hb⟩
  rotate_left
  · exact absurd HF.out hz
  have B3 := Hd.mk (B2.out.trans (hb.mono B2.out.size))
  have T3 := Hd.mk (T2.out.below hb)
  have U3 := Hd.mk ht.tab
  clear hb ht
  go_wp2_with fail
  go_loopw [11] (fun iv wr => ∃ k : Nat, k ≤ n ∧ iv = .int .i64 k ∧ Hd (TabIs wr tb l) ∧ Hd (TabIs wr ub m) ∧ Hd (Below w.heap.size w wr)) (fun iv _ => n - (intOf iv).toNat)
  case atStart => exact ⟨0, Nat.zero_le _, rfl, T3, U3, B3⟩
  case round =>
    clear T3 U3 B3 T2 T1 B2 B1
    obtain ⟨k, hk, rfl, T, U, B⟩ := hrel
    by_cases hlt : k < n
    · have hlt' : (k : Int) < n := by omega
      have hmem : l.getD k pr0 ∈ l := getD_memP (by rw [HN.out]; exact hlt)
      have HO := Hd.mk (crsT_own l G.out hmem)
      have HBk := Hd.mk (crsT_back l G.out hmem)
      have rt := G.out.pos _ hmem
      have HFD := Hd.mk (quo_back _ rt)
      obtain ⟨bb, oo, rfl, c1, c2, c3⟩ := (HL.out.below B.out).cell k (by rw [HN.out]; exact hlt)
      have HXf := Hd.mk fun a b w1 h => cross_any l G.out tb a b w1 h
      unfold CrsRet at HXf
      have hxw := Hd.mk rt.wf
      have hxn := Hd.mk (nn_fin _ rt.fin)
      generalize l.getD k pr0 = p at *
      obtain ⟨pa, pb, px⟩ := p
      dsimp only at c1 c2 c3 HO HBk hxw hxn HFD
      have HX := Hd.mk (HXf.out pa pb)
      rw [HO.out] at HX
      have HY := Hd.mk (HXf.out pb pa)
      clear rt hmem hlt HXf HO
      dsimp only at HX
      have x2 : ((px : Int) != (px : Int)) = false := by simp
      have k0 : (0 : Int) ≤ k := by omega
      have TD : Hd (TabIs wr.drew tb l) := ⟨T.out.below (below_drewN (Below.refl _ _) 1)⟩
      go_upto_region 12 with fail
      go_region_held3 (fun w' => w'.cell? ⟨bb, oo + k * 3, none⟩ = some (.int .i64 pa) ∧ w'.cell? ⟨bb, oo + k * 3 + 1, none⟩ = some (.int .i64 pb)) (first | exact ⟨c1, c2⟩ | exact ⟨c4, c5⟩ | (refine ⟨?_, ?_⟩ <;> go_simp)) (first | (
        go_at_call 15
        refine (HX.out _ TD.out).mono ?_
        rintro en w3 ⟨rfl, hb⟩
        have c4 := cell_trP hb (show wr.drew.cell? ⟨bb, oo + k * 3, none⟩ = _ from c1)
        have c5 := cell_trP hb (show wr.drew.cell? ⟨bb, oo + k * 3 + 1, none⟩ = _ from c2)
        have c6 := cell_trP hb (show wr.drew.cell? ⟨bb, oo + k * 3 + 2, none⟩ = _ from c3)
        have B3 : Hd (Below w.heap.size w w3) := ⟨(below_drewN B.out 1).trans (hb.mono B.out.size)⟩
        have T3 := Hd.mk (TD.out.below hb)
        have U3 : Hd (TabIs w3 ub m) := ⟨(U.out.below (below_drewN (Below.refl _ _) 1)).below hb⟩
        clear hb))
      clear c1 c2 c3 TD T U B HX
      go_upto_region 13 with fail
      go_quiet ((go_at_call 16; exact Calls.quiet_of_same ((apiBits_any _ _).mono fun _ _ h => ⟨h.1, h.2.symm⟩)))
      go_upto_region 15 with fail
      obtain ⟨y, E, hyE⟩ : ∃ y E, crsT l pb pa = (y, E) := ⟨_, _, rfl⟩
      rw [hyE] at HY HBk
      dsimp only at HY HBk
      go_region_held3 (fun w' => w'.cell? ⟨bb, oo + k * 3, none⟩ = some (.int .i64 pa) ∧ w'.cell? ⟨bb, oo + k * 3 + 1, none⟩ = some (.int .i64 pb)) (first | exact ⟨c4, c5⟩ | exact ⟨c7, c8⟩ | (refine ⟨?_, ?_⟩ <;> go_simp)) (first | (
        go_at_call 15
        refine (HY.out _ (tabIs_heap T3.out (by rfl))).mono ?_
        rintro en w4 ⟨rfl, hb⟩
        have c7 := cell_trP hb c4
        have c8 := cell_trP hb c5
        have c9 := cell_trP hb c6
        have hb2 : Below w3.heap.size w3 w4 := Below.trans (below_drewN (Below.refl _ _) _) hb
        have B4 : Hd (Below w.heap.size w w4) := ⟨B3.out.trans (hb2.mono B3.out.size)⟩
        have T4 := Hd.mk (T3.out.below hb2)
        have U4 := Hd.mk (U3.out.below hb2)
        clear hb hb2))
      clear c4 c5 c6 T3 U3 B3 HY
      have HYF := Hd.mk (show F64 y from by have := crsT_F64 l pb pa; rw [hyE] at this; exact this)
      rcases HBk.out with hv | hv
      · cases hv
        have hsm : ∀ w1, same (fdiv one64 px) (fres .quo one64 px w1) = true := fun w1 => by
          refine same_of_cn ?_
          rw [cn_fdiv _ _ _ one64_facts.1 hxw.out, cn_of _ one64_facts.2.2.2.2.2.2, cn_of _ hxn.out, ← HFD.out]
          exact cn_of _ (quo_F64 _ _ _ _).2.1
        have HSM := Hd.mk hsm
        clear hsm HBk hyE
        go_wp2_with fail
        refine (apiBits_any _ _).mono ?_; rintro e3 w6 ⟨rfl, rfl⟩
        go_wp2_with fail
        refine (is_true _ _ HYF.out (by exact F64_fres _ _ _ _) (HSM.out _) _).mono ?_; rintro e4 w7 ⟨rfl, rfl⟩
        go_wp2_with fail
        exact ⟨⟨k + 1, by omega, by go_num, ⟨tabIs_heap T4.out rfl⟩, ⟨tabIs_heap U4.out rfl⟩, ⟨below_drewN B4.out _⟩⟩, by simp [intOf]; omega⟩
      · subst hv
        clear HBk hyE
        go_wp2_with fail
        exact ⟨⟨k + 1, by omega, by go_num, T4, U4, B4⟩, by simp [intOf]; omega⟩
    · have hge : ¬ (k : Int) < n := by omega
      clear hlt
      go_wp2_with fail
      go_loopw [16] (fun iv wr => ∃ a : Nat, a ≤ 9 ∧ 1 ≤ a ∧ iv = .int .i64 a ∧ Hd (TabIs wr tb l) ∧ Hd (TabIs wr ub m) ∧ Hd (Below w.heap.size w wr)) (fun iv _ => 9 - (intOf iv).toNat)
      case atStart => exact ⟨1, by decide, by decide, rfl, T, U, B⟩
      case round =>
        clear T U B
        obtain ⟨a, ha, ha1, rfl, T, U, B⟩ := hrel
        by_cases hlt : a ≤ 8
        · have hla : (a : Int) ≤ 8 := by omega
          go_wp2_with fail
          go_loopw [17] (fun iv wr => ∃ b : Nat, b ≤ 9 ∧ 1 ≤ b ∧ iv = .int .i64 b ∧ Hd (TabIs wr tb l) ∧ Hd (TabIs wr ub m) ∧ Hd (Below w.heap.size w wr)) (fun iv _ => 9 - (intOf iv).toNat)
          case atStart => exact ⟨1, by decide, by decide, rfl, T, U, B⟩
          case round =>
            clear T U B
            obtain ⟨b, hb, hb1, rfl, T, U, B⟩ := hrel
            by_cases hlb : b ≤ 8
            · have hlb' : (b : Int) ≤ 8 := by omega
              have HX := Hd.mk (cross_any l G.out tb a b wr T.out)
              have HY := Hd.mk fun w1 h => cross_any m GM.out ub a b w1 h
              rw [← HC.out a b] at HY
              unfold CrsRet at HX HY
              have hse := Hd.mk fun h : (a : Int) = b => crsT_self l G.out.tree.uq (a := a) (chkC_ok ⟨by omega, by omega⟩ ⟨by omega, by omega⟩)
              have hst := Hd.mk fun (h : (a : Int) = b) => (congrArg (crsT l (a : Int)) h.symm).trans (hse.out h)
              generalize crsT l (a : Int) (b : Int) = R at *
              obtain ⟨x, e⟩ := R
              dsimp only at HX HY
              clear hlt hlb hse
              go_wp2_with fail
              refine HX.out.mono ?_; rintro e1 w4 ⟨rfl, hb4⟩
              have B4 := Hd.mk (B.out.trans (hb4.mono B.out.size))
              have T4 := Hd.mk (T.out.below hb4)
              have U4 := Hd.mk (U.out.below hb4)
              clear hb4
              go_wp2_with fail
              refine (HY.out _ U4.out).mono ?_; rintro e2 w5 ⟨rfl, hb5⟩
              have B5 := Hd.mk (B4.out.trans (hb5.mono B4.out.size))
              have T5 := Hd.mk (T4.out.below hb5)
              have U5 := Hd.mk (U4.out.below hb5)
              have x1 : (e != e) = false := by simp
              have x2 : ((x : Int) != (x : Int)) = false := by simp
              clear hb5 T U B T4 U4 B4 HX HY
              by_cases hab : (a : Int) = b
              · have h1 := hst.out hab
                have o1 : (FloatKind.f64.format.order 4607182418800017408 4607182418800017408 == some .eq) = true := by decide +kernel
                have x3 : ((a : Int) == (b : Int)) = true := by rw [beq_iff_eq]; exact hab
                unfold one64 at h1
                cases h1
                clear hab hst
                go_wp2_with fail
                refine (apiBits_any _ _).mono ?_; rintro e3 w6 ⟨rfl, rfl⟩
                go_wp2_with fail
                refine (apiBits_any _ _).mono ?_; rintro e3 w6 ⟨rfl, rfl⟩
                go_wp2_with fail
                exact ⟨⟨b + 1, by omega, by omega, by go_num, T5, U5, B5⟩, by simp [intOf]; omega⟩
              · have x3 : ((a : Int) == (b : Int)) = false := by rw [beq_eq_false_iff_ne]; exact hab
                clear hab hst
                go_wp2_with fail
                refine (apiBits_any _ _).mono ?_; rintro e3 w6 ⟨rfl, rfl⟩
                go_wp2_with fail
                refine (apiBits_any _ _).mono ?_; rintro e3 w6 ⟨rfl, rfl⟩
                go_wp2_with fail
                exact ⟨⟨b + 1, by omega, by omega, by go_num, T5, U5, B5⟩, by simp [intOf]; omega⟩
            · have hlb' : ¬ (b : Int) ≤ 8 := by omega
              go_wp2_with fail
              exact ⟨⟨a + 1, by omega, by omega, by go_num, T, U, B⟩, by simp [intOf]; omega⟩
        · have hla : ¬ (a : Int) ≤ 8 := by omega
          go_wp2_with fail
          refine (awake23_any _).mono ?_; rintro e w4 ⟨rfl, hb⟩
          have B4 := Hd.mk (B.out.trans (hb.mono B.out.size))
          clear hb
          go_wp2_with fail
          go_ret
          exact ⟨rfl, B4.out⟩

end Go.Proofs.Ythddkfkgnkbpnaa
