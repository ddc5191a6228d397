/- The walk of the reference's between (tenorref10). -/
import Derived.Test.YtmmcnjoeepgpgaaGreatUuC
import Derived.Test.YtmmcnjoeepgpgaaGreatM12
import Derived.Test.YtmmcnjoeepgpgaaGreatM11
import Derived.Deep.RegionLaw
namespace Go.Proofs.YtmmcnjoeepgpgaaGreat
open Go.RowKit
set_option linter.unusedSimpArgs false
set_option linter.unusedVariables false

set_option maxHeartbeats 3200000 in
set_option maxRecDepth 100000 in
theorem between10r_any (aw : Option Addr) (l : List Int) (cw : Nat) (ay : Option Addr) (m : List Nat) (cy : Nat) (h : Nat) (hh : 1 ≤ h) (hh2 : h ≤ 9223372036854775807) (w : World) (hl : Ins w aw l) (hm : Us w ay m) (hlm : l.length = m.length) (hz : ∀ k, AccB (zD ((l.map FI).take k) (m.take k))) :
    Calls Tryz.prog 23 #[.slice aw l.length cw, .slice ay m.length cy, .int .i64 h] w (URet (wsT h l m) w) := by
  have HL := Hd.mk hl
  have HM := Hd.mk hm
  have HZ := Hd.mk hz
  have hlen := hm.len
  rw [← hlm] at hlen
  have HH := Hd.mk (And.intro hh hh2)
  obtain ⟨n, hn⟩ : ∃ n, l.length = n := ⟨_, rfl⟩
  rw [hn] at hlm hlen ⊢
  rw [← hlm]
  have HN := Hd.mk hn
  have HN' := Hd.mk hlm.symm
  obtain ⟨W, hW, b1, b2⟩ := zero_box w
  have I0 : In3 W w.heap.size (zD ((l.map FI).take 0) (m.take 0)) (uD ((l.map FI).take 0) (m.take 0)) (dD ((l.map FI).take 0) (m.take 0)) 0 false none 0 0 0 := ⟨by rw [show nd 0 = 0 from rfl]; exact b1, by rw [List.take_zero]; rfl, R3.zero _ _ _ _ (fun _ _ => by rw [List.take_zero]; rfl)⟩
  have HI := Hd.mk I0
  have HB0 := Hd.mk b2
  clear hl hm hn hz hlm I0 b1 b2 hh hh2
  go_enter Tryz.func23, Tryz.ntmps23
  go_upto_region 2 with fail
  clear hW
  go_wp2_with fail
  go_loopw [8] (fun iv wr => ∃ (k : Nat) (st : Int) (s : Bool) (a' : Option Addr) (d c' : Nat) (e : Int), k ≤ n ∧ iv = .int .i64 k ∧ Hd (In3 wr w.heap.size (zD ((l.map FI).take k) (m.take k)) (uD ((l.map FI).take k) (m.take k)) (dD ((l.map FI).take k) (m.take k)) st s a' d c' e) ∧ Hd (Below w.heap.size w wr)) (fun iv _ => n - (intOf iv).toNat)
  case atStart => exact ⟨0, 0, false, none, 0, 0, 0, Nat.zero_le _, rfl, HI, HB0⟩
  case round =>
    clear HI HB0
    obtain ⟨k, st, s, a', d, c', e, hk, rfl, HI, HB⟩ := hrel
    obtain ⟨x0, x1, x2, x3⟩ := HI.out.box.cell
    by_cases hlt : k < n
    · obtain ⟨b, o, ha, hc⟩ := (HL.out.belowK HB.out).at k (by rw [HN.out]; exact hlt)
      subst ha
      obtain ⟨b', o', ha2, hc2⟩ := (HM.out.below HB.out).at k (by rw [HN'.out]; exact hlt)
      subst ha2
      have hlt' : (k : Int) < n := by omega
      have HS := Hd.mk (zD_take (l.map FI) m k (by rw [List.length_map, HN.out]; exact hlt) (by rw [HN'.out]; exact hlt))
      have HA : Hd (∀ w', R3 w' s a' d e (zD ((l.map FI).take k) (m.take k)) (uD ((l.map FI).take k) (m.take k)) (dD ((l.map FI).take k) (m.take k)) → Calls Tryz.prog 45 #[.agg #[.int .i64 st, .bool s, .slice a' (nd d) c', .int .i64 e], .int .u64 (floatOfInt .f64 (l.getD k 0) : Nat), .int .u64 (m.getD k 0)] w' (R3Ret (zD ((l.map FI).take (k + 1)) (m.take (k + 1))) (uD ((l.map FI).take (k + 1)) (m.take (k + 1))) (dD ((l.map FI).take (k + 1)) (m.take (k + 1))) w')) := ⟨fun w' h => by
        have hz := HZ.out (k + 1)
        rw [HS.out.1] at hz
        rw [HS.out.1, HS.out.2.1, HS.out.2.2, HI.out.st]
        have hg := getD_map_FI l k (by rw [HN.out]; exact hlt)
        rw [hg] at hz ⊢
        exact r3prod_any _ _ s a' d c' e _ _ _ (F64_FI _) (HM.out.wf k) w' h hz⟩
      have HWf := HL.out.wf k
      have HInt := Hd.mk (rInt_any (l.getD k 0) HWf.1 HWf.2)
      have k0 : (0 : Int) ≤ k := by omega
      have BX := Hd.mk HI.out.box
      have HR3 := Hd.mk HI.out.r3
      generalize floatOfInt .f64 (l.getD k 0) = F at *
      generalize l.getD k 0 = x at *
      generalize m.getD k 0 = y at *
      obtain ⟨N, hN⟩ : ∃ N, nd d = N := ⟨_, rfl⟩
      rw [hN] at HA x2 BX
      clear hlt hN HS HWf HI
      go_wp2_with fail
      have y0 : wr.drew.cell? ⟨w.heap.size, 0, none⟩ = _ := x0
      have y1 : wr.drew.cell? ⟨w.heap.size, 1, none⟩ = _ := x1
      have y2 : wr.drew.cell? ⟨w.heap.size, 2, none⟩ = _ := x2
      have y3 : wr.drew.cell? ⟨w.heap.size, 3, none⟩ = _ := x3
      have hc' : wr.drew.cell? ⟨b, o + k, none⟩ = some (.int .i64 x) := hc
      have hc2' : wr.drew.cell? ⟨b', o' + k, none⟩ = some (.int .u64 y) := hc2
      have BD := Hd.mk HB.out.drew
      go_region_law (
        first
        | (go_simp; go_at_call 36; refine (HInt.out _).mono ?_; rintro en wI ⟨rfl, hb⟩; have RI := Hd.mk (HR3.out.below ((Below.refl _ _).drew.trans hb)); have BI := Hd.mk ((show Box3 wr.drew _ _ _ _ _ _ _ from BX.out).below hb); have CI := below_go (w := w) hb BD; have i0 := BI.out.cell.1; have i1 := BI.out.cell.2.1; have i2 := BI.out.cell.2.2.1; have i3 := BI.out.cell.2.2.2; have i4 := cell_of_below hb (Nat.le_refl _) hc'; have i5 := cell_of_below hb (Nat.le_refl _) hc2'; clear hb)
        | (go_simp; go_at_call 45; refine (HA.out _ RI.out).mono ?_; rintro en w5 ⟨s5, a5, d5, c5, e5, rfl, hr, hb⟩; have BX5 := Hd.mk (BI.out.below hb); have HB5 := below_go (w := w) hb CI; have IN := Hd.mk (In3.store BX5.out hr c5); have fz := BX5.out.frozen; have z0 := BX5.out.cell.1; have z1 := BX5.out.cell.2.1; have z2 := BX5.out.cell.2.2.1; have z3 := BX5.out.cell.2.2.2; clear hb hr))
      all_goals
        clear x0 x1 x2 x3 y0 y1 y2 y3 i0 i1 i2 i3 i4 i5
        go_wp2_with fail
        refine ⟨⟨k + 1, _, s5, a5, d5, c5, e5, by omega, by go_num, IN, ⟨?_⟩⟩, by simp [intOf]; omega⟩
        repeat (refine Below.setCell ?_ (by simp) _)
        exact HB5.out
    · have hge : (n : Int) ≤ k := by omega
      have he : Hd ((l.map FI).take k = l.map FI ∧ m.take k = m) := ⟨List.take_of_length_le (by rw [List.length_map, HN.out]; omega), List.take_of_length_le (by rw [HN'.out]; omega)⟩
      have HV : Hd (Calls Tryz.prog 46 #[.agg #[.int .i64 st, .bool s, .slice a' (nd d) c', .int .i64 e], .int .i64 h] wr (URet (wsT h l m) wr)) := ⟨by
        have h1 := HI.out.r3
        have h2 := HI.out.st
        rw [he.out.1, he.out.2] at h1 h2
        rw [h2]
        exact r3over_any _ _ s a' d c' e _ h HH.out.1 HH.out.2 wr h1⟩
      generalize wsT h l m = v at *
      obtain ⟨N, hN⟩ : ∃ N, nd d = N := ⟨_, rfl⟩
      rw [hN] at HV x2
      clear hlt hN
      go_wp2_with fail
      refine (HV.out).mono ?_; rintro en w2 ⟨rfl, hb⟩
      have HB2 := Hd.mk (HB.out.trans (hb.mono HB.out.size))
      clear hb
      go_wp2_with fail
      go_ret
      exact ⟨rfl, HB2.out⟩

end Go.Proofs.YtmmcnjoeepgpgaaGreat
