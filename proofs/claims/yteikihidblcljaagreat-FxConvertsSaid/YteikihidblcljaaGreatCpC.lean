/- The walk of the reference's Sum (tenorref23). -/
import Derived.Test.YteikihidblcljaaGreatCkC
import Derived.Test.YteikihidblcljaaGreatM21
import Derived.Test.YteikihidblcljaaGreatM15
import Derived.StillTailTactics
namespace Go.Proofs.YteikihidblcljaaGreat
open Go.RowKit
set_option linter.unusedSimpArgs false
set_option linter.unusedVariables false

theorem rFit_any (v : Nat) (hv : F64 v) (w : World) :
    Calls Tryz.prog 101 #[.int .u64 (v : Nat)] w fun e w' => e = .returned (.tuple #[.int .u64 ((if fin v then v else 0 : Nat) : Int), .int .i64 (if fin v then 0 else 91)]) ∧ w = w' := by
  have HNu := Hd.mk (rNumber_any v hv)
  cases hp : fin v <;> rw [hp] at HNu
  all_goals
    clear hp hv
    simp only [if_true, Bool.false_eq_true, if_false]
    go_enter Tryz.func101, Tryz.ntmps101
    go_wp2_with fail
    refine (HNu.out _).mono ?_; rintro e w' ⟨rfl, rfl⟩
    go_wp2_with fail
    go_ret2
    exact ⟨rfl, rfl⟩
theorem TBoxU.set4 {w : World} {b p : Nat} {v : Value} (h : TBoxU w b v) (hne : b ≠ p) (v0 v1 v2 v3 : Value) : TBoxU ((((w.setCell ⟨p, 0, none⟩ v0).setCell ⟨p, 1, none⟩ v1).setCell ⟨p, 2, none⟩ v2).setCell ⟨p, 3, none⟩ v3) b v := by
  unfold TBoxU at *
  rw [Below.heap_setCell _ _ _ _ hne, Below.heap_setCell _ _ _ _ hne, Below.heap_setCell _ _ _ _ hne, Below.heap_setCell _ _ _ _ hne]
  exact h
theorem toldV_eq (z : Int) : toldV z = (if fin (overA z false false 1) then overA z false false 1 else 0, if fin (overA z false false 1) then 0 else 91) := by
  unfold toldV; split <;> rfl
set_option maxHeartbeats 1600000 in
set_option maxRecDepth 100000 in
theorem rTold_any (s : Bool) (a : Option Addr) (d c : Nat) (e z : Int) (w : World) (h : R3 w s a d e z false false) :
    Calls Tryz.prog 50 #[.agg #[.int .i64 0, .bool s, .slice a (nd d) c, .int .i64 e]] w (CrsRetU (toldV z) w) := by
  have HV : Hd (∀ w', Below w.heap.size w w' → Calls Tryz.prog 102 #[.agg #[.int .i64 0, .bool s, .slice a (nd d) c, .int .i64 e]] w' (URet (overA z false false 1) w')) := ⟨fun w' hb => r3value_any false false s a d c e z w' (h.below hb)⟩
  have hF := overA_facts z
  have HF := Hd.mk fun w' => rFit_any (overA z false false 1) hF.1 w'
  have HR : Hd (∀ e w', (e = .returned (.tuple #[.int .u64 ((if fin (overA z false false 1) then overA z false false 1 else 0 : Nat) : Int), .int .i64 (if fin (overA z false false 1) then 0 else 91)]) ∧ Below w.heap.size w w') → CrsRetU (toldV z) w e w') := ⟨fun e w' h => by unfold CrsRetU; rw [toldV_eq]; exact h⟩
  generalize overA z false false 1 = v at *
  generalize (if fin v then v else 0) = v1 at *
  generalize (if fin v then (0 : Int) else 91) = v2 at *
  generalize nd d = n at *
  clear h hF
  obtain ⟨W, hW, b1, b2⟩ := one_box w 0 s a n c e
  have HW := Hd.mk hW
  have B2 := Hd.mk b2
  obtain ⟨x0, x1, x2, x3⟩ := b1.cell
  clear b1 b2 hW
  go_enter Tryz.func50, Tryz.ntmps50
  go_upto_region 1 with fail
  rw [HW.out]
  go_wp2_with fail
  refine (HV.out _ B2.out).mono ?_; rintro en w2 ⟨rfl, hb⟩
  have B3 := Hd.mk (B2.out.trans (hb.mono B2.out.size))
  clear hb
  go_wp2_with fail
  refine (HF.out _).mono ?_; rintro en w3 ⟨rfl, rfl⟩
  go_wp2_with fail
  exact bodyPost_ret (v := .tuple #[.int .u64 (v1 : Nat), .int .i64 v2]) (by simp [results, Tryz.results50, go_sem]) rfl (HR.out _ _ ⟨rfl, B3.out⟩)

set_option maxHeartbeats 6400000 in
set_option maxRecDepth 100000 in
theorem rFxSum_any (L : List Pr) (g : Good L) (au : Option Addr) (cu : Nat) (ad : Option Addr) (l : List Fw) (c : Nat) (tc : Int) (w : World) (hp : PrsU w au L) (hl : FlwsU w ad l) :
    Calls Tryz.prog 13 #[.agg #[.slice au L.length cu], .slice ad l.length c, .int .i64 tc] w (CrsRetU (sumT L l tc) w) := by
  obtain ⟨W, hW, t0, b0⟩ := tboxUR w (.slice au L.length cu)
  have HW := Hd.mk hW
  have B0 := Hd.mk b0
  have T0 := Hd.mk t0
  have HPW := Hd.mk hp
  have HFW := Hd.mk hl
  have HP := Hd.mk (hp.below b0)
  have HF := Hd.mk (hl.below b0)
  have HBg := Hd.mk (rAsked_any ad l c tc W HF.out)
  have HV : Hd (sumT L l tc = if bgF l tc ≠ 0 then (0, bgF l tc) else if feN L tc l l.length ≠ 0 then (0, feN L tc l l.length) else toldV (sumZ L tc l l.length)) := ⟨rfl⟩
  have HOKF := Hd.mk (fun h : bgF l tc = 0 => chkF_ok (bgF_ok h).1)
  have HR : Hd (∀ e w', (e = .returned (.tuple #[.int .u64 ((sumT L l tc).1 : Nat), .int .i64 (sumT L l tc).2]) ∧ Below w.heap.size w w') → CrsRetU (sumT L l tc) w e w') := ⟨fun e w' h => h⟩
  generalize sumT L l tc = V at *
  have HCr := Hd.mk fun a b w' (h : PrsU w' au L) => rCross_any L g au cu a b w' h
  have hlen := hl.len
  have HZB := Hd.mk fun n => sumZ_bd L tc l hl.wf n
  obtain ⟨n, hn⟩ : ∃ n, l.length = n := ⟨_, rfl⟩
  rw [hn] at hlen HBg HV HOKF ⊢
  have HN := Hd.mk hn
  have hszW : w.heap.size < W.heap.size := t0.lt
  have HSZ := Hd.mk hszW
  generalize L.length = NL at *
  clear hl hp hn g hW t0 b0
  by_cases h0 : bgF l tc = 0
  rotate_left
  · have hv := HV.out
    rw [if_pos h0] at hv
    subst hv
    have d1 : (bgF l tc != 0) = true := by rw [bne_iff_ne]; exact h0
    have HE := Hd.mk h0
    generalize bgF l tc = E at *
    clear h0 HV
    go_enter Tryz.func13, Tryz.ntmps13
    go_upto_region 1 with fail
    rw [HW.out]
    go_wp2_with fail
    refine HBg.out.mono ?_; rintro e w1 ⟨rfl, hb⟩
    have HB := Hd.mk (B0.out.trans (hb.mono B0.out.size))
    clear hb
    go_wp2_with fail
    exact bodyPost_ret (v := .tuple #[.int .u64 0, .int .i64 E]) (by simp [results, Tryz.results13, go_sem]) rfl (HR.out _ _ ⟨rfl, HB.out⟩)
  have HOK := Hd.mk (HOKF.out h0)
  have HV2 : Hd (V = if feN L tc l n ≠ 0 then (0, feN L tc l n) else toldV (sumZ L tc l n)) := ⟨by rw [HV.out, if_neg (by omega)]⟩
  have h4k : n ≤ 4096 := by have := HOK.out.1; omega
  rw [h0] at HBg
  clear HV HOKF h0
  go_enter Tryz.func13, Tryz.ntmps13
  go_upto_region 1 with fail
  rw [HW.out]
  go_wp2_with fail
  refine HBg.out.mono ?_; rintro e w1 ⟨rfl, hb⟩
  have B1 := Hd.mk (B0.out.trans (hb.mono B0.out.size))
  have T1 := Hd.mk (T0.out.below hb)
  clear hb HP HF T0
  go_upto_region 5 with fail
  obtain ⟨W1, hW1, x1, x2⟩ := zero_box w1
  rw [hW1]
  have B2 := Hd.mk (B1.out.trans (x2.mono B1.out.size))
  have T2 := Hd.mk (T1.out.below x2)
  have I0 : Hd (In3 W1 w1.heap.size (sumZ L tc l 0) false false 0 false none 0 0 0) := ⟨⟨by rw [show nd 0 = 0 from rfl]; exact x1, rfl, R3.zero _ _ _ _ (fun _ _ => rfl)⟩⟩
  have hw1 : w.heap.size < w1.heap.size := T1.out.lt
  have hPW : Hd (∀ wr, Below w.heap.size w wr → PrsU wr au L) := ⟨fun wr h => HPW.out.below h⟩
  have hFW : Hd (∀ wr, Below w.heap.size w wr → FlwsU wr ad l) := ⟨fun wr h => HFW.out.below h⟩
  clear hW1 x1 x2 T1 B1
  go_wp2_with fail
  go_loopw [10] (fun iv wr => ∃ (k : Nat) (s : Bool) (a' : Option Addr) (d c' : Nat) (e : Int), k ≤ n ∧ iv = .int .i64 k ∧ Hd (feN L tc l k = 0) ∧ Hd (In3 wr w1.heap.size (sumZ L tc l k) false false 0 s a' d c' e) ∧ Hd (Below w.heap.size w wr) ∧ Hd (TBoxU wr w.heap.size (.slice au NL cu))) (fun iv _ => n - (intOf iv).toNat)
  case atStart => exact ⟨0, false, none, 0, 0, 0, Nat.zero_le _, rfl, ⟨rfl⟩, I0, B2, T2⟩
  case round =>
    clear I0 B2 T2
    obtain ⟨k, s, a', d, c', e, hk, rfl, HE, HI, HB, T⟩ := hrel
    have t0 := T.out.cell
    by_cases hlt : k < n
    · have hlt' : (k : Int) < n := by omega
      have k0 : (0 : Int) ≤ k := by omega
      obtain ⟨bb, oo, rfl, c1, c2, c3⟩ := (hFW.out _ HB.out).cell k (by rw [HN.out]; exact hlt)
      have hF := HFW.out.wf k
      have hok := badF_ok (HOK.out.2 k hlt)
      have HS : Hd (sumZ L tc l (k + 1) = sumZ L tc l k + pZ (l.getD k fw0).x (crsT L (l.getD k fw0).c tc).1) := ⟨rfl⟩
      have HFE : Hd (feN L tc l (k + 1) = (crsT L (l.getD k fw0).c tc).2) := ⟨by rw [feN, if_neg (by rw [HE.out]; decide)]⟩
      have HV3 : Hd (feN L tc l (k + 1) ≠ 0 → V = (0, feN L tc l (k + 1))) := ⟨fun h => by
        have h2 := feN_stays L tc l (k + 1) h n (by omega)
        rw [HV2.out, h2, if_pos h]⟩
      have HAB : Hd (AccB (sumZ L tc l (k + 1))) := ⟨(HZB.out (k + 1)).accB (Nat.le_trans (show k + 1 ≤ 4096 by omega) (by decide))⟩
      generalize hf : l.getD k fw0 = f at *
      obtain ⟨fd, fx, fc⟩ := f
      dsimp only at c1 c2 c3 hF hok HFE HS
      have hCF := Hd.mk (crsT_F64 L fc tc)
      have hCn := Hd.mk (crsT_fin (L := L) (a := fc) (b := tc))
      have HX := Hd.mk (HCr.out fc tc)
      unfold CrsRetU at HX
      generalize crsT L fc tc = Q at *
      obtain ⟨r1, r2⟩ := Q
      dsimp only at HX hCF hCn HFE HS
      have hwfx := Hd.mk hF
      have hfin := Hd.mk hok.2.1
      have PD : Hd (PrsU wr.drew au L) := ⟨hPW.out _ HB.out.drew⟩
      clear hlt hok hf hF
      go_upto_region 8 with fail
      go_region_held3 (fun w' => w'.cell? ⟨w.heap.size, 0, none⟩ = some (.slice au NL cu) ∧ w'.cell? ⟨bb, oo + k * 3 + 2, none⟩ = some (.int .i64 fc)) (first | exact ⟨t0, c3⟩ | exact ⟨t1, d3⟩ | (refine ⟨?_, ?_⟩ <;> go_simp)) (first | (
        go_at_call 43
        refine (HX.out _ PD.out).mono ?_
        rintro en w3 ⟨rfl, hb⟩
        have t1 := cell_trP hb (show wr.drew.cell? ⟨w.heap.size, 0, none⟩ = _ from t0)
        have d2 := cell_trP hb (show wr.drew.cell? ⟨bb, oo + k * 3 + 1, none⟩ = _ from c2)
        have d3 := cell_trP hb (show wr.drew.cell? ⟨bb, oo + k * 3 + 2, none⟩ = _ from c3)
        have B3 : Hd (Below w.heap.size w w3) := ⟨HB.out.drew.trans (hb.mono HB.out.size)⟩
        have I3 := Hd.mk ((show In3 wr.drew _ _ _ _ _ _ _ _ _ _ from HI.out.below (Below.refl _ _).drew).below hb)
        have T3 : Hd (TBoxU w3 w.heap.size (.slice au NL cu)) := ⟨(show TBoxU wr.drew _ _ from T.out).below hb⟩
        clear hb))
      clear c1 c2 c3 t0 t1 HB T PD HX HI
      by_cases hr : r2 = 0
      · subst hr
        have HE0 := HFE
        have hpf := puB_fin hfin.out (hCn.out rfl)
        have HAd : Hd (∀ w', R3 w' s a' d e (sumZ L tc l k) false false → Calls Tryz.prog 49 #[.agg #[.int .i64 0, .bool s, .slice a' (nd d) c', .int .i64 e], .int .u64 (fx : Nat), .int .u64 (r1 : Nat)] w' (R3Ret (sumZ L tc l (k + 1)) false false w')) := ⟨fun w' h => by
          have hp := r3prod_any false false s a' d c' e (sumZ L tc l k) fx r1 hwfx.out hCF.out w' h (by rw [← HS.out]; exact HAB.out)
          rw [hpf.1, hpf.2, ← HS.out] at hp
          exact hp⟩
        have BX := Hd.mk I3.out.box
        obtain ⟨q0, q1, q2, q3⟩ := I3.out.box.cell
        obtain ⟨N, hN⟩ : ∃ N, nd d = N := ⟨_, rfl⟩
        rw [hN] at HAd q2 BX
        clear hN hpf HS HAB HFE hCF hCn hfin hwfx HV3
        go_upto_region 11 with fail
        have y0 : w3.drew.cell? ⟨w1.heap.size, 0, none⟩ = _ := q0
        have y1 : w3.drew.cell? ⟨w1.heap.size, 1, none⟩ = _ := q1
        have y2 : w3.drew.cell? ⟨w1.heap.size, 2, none⟩ = _ := q2
        have y3 : w3.drew.cell? ⟨w1.heap.size, 3, none⟩ = _ := q3
        have yc : w3.drew.cell? ⟨bb, oo + k * 3 + 1, none⟩ = _ := d2
        refine wp_region_still_tail 7 (by kernel_rfl) (by kernel_rfl) ?_
        simp only [List.take_succ_cons, List.take_zero, List.drop_succ_cons, List.drop_zero]
        change wpStill _ _ w3.drew _ _ _
        iterate 7 still_step
        refine wpStill_nil ?_
        change wpList _ _ _ _ _ w3.drew
        go_wp2_with fail
        refine (HAd.out _ (I3.out.r3.below (Below.refl _ _).drew)).mono ?_; rintro en w5 ⟨s5, a5, d5, c5, e5, rfl, hr, hb⟩
        have BX5 := Hd.mk ((show Box3 w3.drew _ _ _ _ _ _ _ from BX.out).below hb)
        have HB5 := Hd.mk (B3.out.drew.trans (hb.mono B3.out.size))
        have IN := Hd.mk (In3.store BX5.out hr c5)
        have T5 : Hd (TBoxU w5 w.heap.size (.slice au NL cu)) := ⟨(show TBoxU w3.drew _ _ from T3.out).below hb⟩
        have fz := BX5.out.frozen
        obtain ⟨z0, z1, z2, z3⟩ := BX5.out.cell
        clear hb hr q0 q1 q2 q3 y0 y1 y2 y3 yc d2 d3 I3 T3 B3
        go_wp2_with fail
        refine ⟨⟨k + 1, s5, a5, d5, c5, e5, by omega, by go_num, HE0, IN, ⟨?_⟩, ⟨?_⟩⟩, by simp [intOf]; omega⟩
        · repeat (refine Below.setCell ?_ (by simp; omega) _)
          exact HB5.out
        · exact T5.out.set4 (by omega) _ _ _ _
      · have hv := HV3.out (by rw [HFE.out]; exact hr)
        rw [HFE.out] at hv
        subst hv
        have d4 : (r2 != 0) = true := by rw [bne_iff_ne]; exact hr
        clear hr
        go_wp2_with fail
        exact bodyPost_ret (v := .tuple #[.int .u64 0, .int .i64 r2]) (by simp [results, Tryz.results13, go_sem]) rfl (HR.out _ _ ⟨rfl, B3.out⟩)
    · have hge : ¬ (k : Int) < n := by omega
      obtain rfl : n = k := by omega
      have hv : Hd (V = toldV (sumZ L tc l n)) := ⟨by rw [HV2.out, if_neg (by rw [HE.out]; decide)]⟩
      have HTo := Hd.mk (rTold_any s a' d c' e _ wr HI.out.r3)
      rw [← hv.out] at HTo
      unfold CrsRetU at HTo
      obtain ⟨q0, q1, q2, q3⟩ := HI.out.box.cell
      obtain ⟨N, hN⟩ : ∃ N, nd d = N := ⟨_, rfl⟩
      rw [hN] at HTo q2
      clear hlt hN hv HV2
      go_wp2_with fail
      refine HTo.out.mono ?_; rintro en w5 ⟨rfl, hb⟩
      have B5 := Hd.mk (HB.out.trans (hb.mono HB.out.size))
      clear hb
      go_wp2_with fail
      exact bodyPost_ret (v := .tuple #[.int .u64 (V.1 : Nat), .int .i64 V.2]) (by simp [results, Tryz.results13, go_sem]) rfl (HR.out _ _ ⟨rfl, B5.out⟩)

end Go.Proofs.YteikihidblcljaaGreat
