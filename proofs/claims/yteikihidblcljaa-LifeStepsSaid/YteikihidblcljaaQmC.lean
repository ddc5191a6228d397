/- The walk of tenorlaw24's awake. -/
import Derived.Test.YteikihidblcljaaQlC
namespace Go.Proofs.Yteikihidblcljaa
open Go.RowKit
set_option linter.unusedSimpArgs false
set_option linter.unusedVariables false

set_option maxHeartbeats 6400000 in
set_option maxRecDepth 100000 in
theorem awake24_any (w : World) : Calls Try.prog 34 #[] w fun e w' => e = .returned (.bool true) ∧ Below w.heap.size w w' := by
  have o1 : (FloatKind.f64.format.order 4616189618054758400 4616189618054758400 == some .eq) = true := by decide +kernel
  have o2 : (FloatKind.f64.format.order 4602678819172646912 4602678819172646912 == some .eq) = true := by decide +kernel
  have HNw := Hd.mk fun w1 (h : Flws w1 (some ⟨w.heap.size, 0, none⟩) awF24) => lifeNew_any (some ⟨w.heap.size, 0, none⟩) awF24 3 1 5 w1 h
  rw [show awF24.length = 3 from rfl] at HNw
  have HP := Hd.mk (aw24_flws w)
  have HB0 : Hd (Below w.heap.size w (w.alloc (.cells #[.int .i64 10, .float .f64 4616189618054758400, .int .i64 1, .int .i64 20, .float .f64 4620693217682128896, .int .i64 1, .int .i64 10, .float .f64 4607182418800017408, .int .i64 2] 74))) := ⟨(Below.refl _ _).alloc (Nat.le_refl _) _⟩
  go_enter Try.func34, Try.ntmps34
  go_wp2_with fail
  refine (HNw.out _ HP.out).mono ?_
  rintro e w1 ⟨⟨hn, b, ba, a, c, rfl, hL⟩ | ⟨hn, _⟩, hb⟩
  rotate_left
  · exact absurd aw24_ln hn
  have HB1 := Hd.mk (HB0.out.trans (hb.mono HB0.out.size))
  have L1 := Hd.mk (hL.mono_base HB0.out.size)
  have hlok := lnE_LOk (aw24_flws w) hn
  have K1 := Hd.mk hlok
  have K2 : Hd (LOk (stayF (mineF awF24 1) 11)) := ⟨hlok.filter _⟩
  have HZ : Hd (AccB (0 + paidZ (mineF awF24 1) 11)) := ⟨by
    have := bd_xs (paidF (mineF awF24 1) 11) (hlok.filter _).ok.wf
    rw [Int.zero_add]
    exact this.accB (big_150 (by rw [aw24_paid.1]; decide))⟩
  have HPd := Hd.mk aw24_paid
  have HCa := Hd.mk aw24_cash
  clear hn hL hb hlok
  go_wp2_with fail
  refine (lifePass_any 11 w1 L1.out K1.out.ok K1.out.fn).mono ?_
  rintro e w2 (⟨h, _⟩ | ⟨_, h, _⟩ | ⟨_, _, ⟨ap, rfl, hfr⟩, hL, hfm⟩)
  · exact absurd h (by decide)
  · exact absurd h (by decide)
  have HB2 := Hd.mk (hfm.to_below HB1.out L1.out.frm_ge HB1.out.size)
  have L2 := Hd.mk hL
  rw [HPd.out.1]
  clear hfr hL hfm L1
  rw [show ([(⟨10, 4616189618054758400, 1⟩ : Fw)]).length = 1 from rfl]
  go_wp2_with fail
  refine (lifeCash_any w2 L2.out HZ.out).mono ?_
  rintro e w3 ⟨rfl, hb⟩
  rw [HCa.out]
  have HB3 := Hd.mk (HB2.out.trans (hb.mono HB2.out.size))
  have L3 := Hd.mk (L2.out.below hb)
  clear hb L2
  go_wp2_with fail
  refine (lifePass_any 10 w3 L3.out K2.out.ok K2.out.fn).mono ?_
  rintro e w4 (⟨h, _⟩ | ⟨_, _, rfl, rfl⟩ | ⟨_, h, _⟩)
  · exact absurd h (by decide)
  rotate_left
  · exact absurd h (by decide)
  obtain ⟨W, hW, ht, hb⟩ := aw24_tbl w4
  have HW := Hd.mk hW
  have T := Hd.mk ht
  have HB4 := Hd.mk (HB3.out.trans (hb.mono HB3.out.size))
  have L4 := Hd.mk (L3.out.below hb)
  have HRl := Hd.mk fun w' h => lifeRoll_any 0 2 (some ⟨w4.heap.size, 0, none⟩) awD24 2 (some ⟨w4.heap.size + 1, 0, none⟩) awG24 2 100 w' h
  rw [show awD24.length = 2 from rfl, show awG24.length = 2 from rfl] at HRl
  clear hW ht hb L3
  go_wp2_with fail
  rw [HW.out]
  refine (HRl.out _ T.out).mono ?_
  rintro e w5 ⟨⟨_, p1, p2, m, rfl, hm, htr⟩ | ⟨h, _⟩, hb⟩
  rotate_left
  · exact absurd aw24_roll.1 h
  have hm1 : m = 1 := by rw [hm, aw24_roll.2.1]; rfl
  subst hm1
  have HB5 := Hd.mk (HB4.out.trans (hb.mono HB4.out.size))
  have L5 := Hd.mk (L4.out.below hb)
  obtain ⟨bf, of, ef, cf⟩ := htr.fy.at 0 (by unfold rollF; rw [List.length_map, List.length_drop, aw24_roll.2.1]; decide)
  cases ef
  rw [aw24_roll.2.2, Nat.add_zero] at cf
  obtain ⟨V, hV, b1, b2⟩ := box_c w5 100 2 (some p1) 1 1 (some ⟨bf, of, none⟩) 1 1
  have HV := Hd.mk hV
  have BV := Hd.mk b1
  have HB6 := Hd.mk (HB5.out.trans (b2.mono HB5.out.size))
  have L6 := Hd.mk (L5.out.below b2)
  have cf6 : Hd (V.cell? ⟨bf, of, none⟩ = some (.float .f64 4602678819172646912)) := ⟨(b2.cell (World.block_lt_of_cell? _ _ cf)).trans cf⟩
  clear hm htr hb hV b1 b2 L5 cf L4 HCa HZ
  rw [HPd.out.2] at L6 K2
  go_upto_region 8 with fail
  rw [HV.out]
  go_wp2_with fail
  refine (lifeDay_any V L6.out).mono ?_; rintro e w7 ⟨rfl, rfl⟩
  go_wp2_with fail
  refine (lifeLeft_any V L6.out K2.out.ok).mono ?_
  rintro e w8 ⟨a8, c8, rfl, _, hb⟩
  rw [show ([(⟨20, 4620693217682128896, 1⟩ : Fw)]).length = 1 from rfl]
  have HB8 := Hd.mk (HB6.out.trans (hb.mono HB6.out.size))
  have BV8 := Hd.mk (BV.out.below hb)
  have cf8 := (hb.cell (World.block_lt_of_cell? _ _ cf6.out)).trans cf6.out
  clear hb
  obtain ⟨z0, z1, z2, z3⟩ := BV8.out.cell
  go_wp2_with fail
  go_ret
  exact ⟨rfl, HB8.out⟩

end Go.Proofs.Yteikihidblcljaa
