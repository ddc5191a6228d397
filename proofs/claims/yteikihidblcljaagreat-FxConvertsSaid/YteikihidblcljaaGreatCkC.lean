/- The walk of the reference's Convert (tenorref23). -/
import Derived.Test.YteikihidblcljaaGreatCiC
import Derived.Test.YteikihidblcljaaGreatCgC
import Derived.Test.YteikihidblcljaaGreatM18
import Derived.Test.YteikihidblcljaaGreatM4
import Derived.Deep.RegionHeld3
namespace Go.Proofs.YteikihidblcljaaGreat
open Go.RowKit
set_option linter.unusedSimpArgs false
set_option linter.unusedVariables false

/-- It returns the reference's flows, or what is wrong. -/
def RConvRet (L : List Pr) (l : List Fw) (tc : Int) (w : World) (e : Ending) (w' : World) : Prop :=
  ((cvE L l tc = 0 ∧ ∃ a c, e = .returned (.tuple #[.slice a l.length c, .int .i64 0]) ∧ w'.ownsRow w.heap.size 102 3 (.slice a l.length c) l.length (flU (l.map (cvF L tc)))) ∨ (cvE L l tc ≠ 0 ∧ e = .returned (.tuple #[.slice none 0 0, .int .i64 (cvE L l tc)]))) ∧ Below w.heap.size w w'
theorem rconv_step {B : Nat} {w wd w2 : World} {o : Obj} {v v' : Value} {n : Nat} {xs ys : List Value} (hb : Below w.heap.size w wd) (hB : B ≤ wd.heap.size) (hw : w.heap.size ≤ B) (ho : wd.ownsRow B 102 3 v n xs)
    (ho' : w2.ownsRow B 102 3 v' (n + 1) ys) (hg : (wd.alloc o).grownBy w2 v.ownBlock) : ∃ a c, v' = .slice a (n + 1) c ∧ w2.ownsRow B 102 3 (.slice a (n + 1) c) (n + 1) ys ∧ Below w.heap.size w w2 ∧ Below B wd w2 := by
  have hb1 : Below B wd w2 := ((Below.refl _ _).alloc hB o).grown hg (by simp; omega) fun k hk => (ho.lt k hk).1
  have hb2 : Below w.heap.size w w2 := hb.trans (hb1.mono hw)
  rcases ho'.2 with ⟨_, e⟩ | ⟨g, cap, cur, rfl, _⟩
  · omega
  · exact ⟨_, _, rfl, ho', hb2, hb1⟩

set_option maxHeartbeats 6400000 in
set_option maxRecDepth 100000 in
theorem rFxConvert_any (L : List Pr) (g : Good L) (au : Option Addr) (cu : Nat) (ad : Option Addr) (l : List Fw) (c : Nat) (tc : Int) (w : World) (hp : PrsU w au L) (hl : FlwsU w ad l) :
    Calls Tryz.prog 11 #[.agg #[.slice au L.length cu], .slice ad l.length c, .int .i64 tc] w (RConvRet L l tc w) := by
  obtain ⟨W, hW, t0, b0⟩ := tboxUR w (.slice au L.length cu)
  have HW := Hd.mk hW
  have B0 := Hd.mk b0
  have T0 := Hd.mk t0
  have HPW := Hd.mk hp
  have HFW := Hd.mk hl
  have HP := Hd.mk (hp.below b0)
  have HF := Hd.mk (hl.below b0)
  have HBg := Hd.mk (rAsked_any ad l c tc W HF.out)
  have HV : Hd (cvE L l tc = if bgF l tc ≠ 0 then bgF l tc else feC L tc l l.length) := ⟨rfl⟩
  have HOKF := Hd.mk (fun h : bgF l tc = 0 => chkF_ok (bgF_ok h).1)
  have HR : Hd (∀ e w', ((cvE L l tc = 0 ∧ ∃ a c, e = .returned (.tuple #[.slice a l.length c, .int .i64 0]) ∧ w'.ownsRow w.heap.size 102 3 (.slice a l.length c) l.length (flU (l.map (cvF L tc)))) ∨ (cvE L l tc ≠ 0 ∧ e = .returned (.tuple #[.slice none 0 0, .int .i64 (cvE L l tc)]))) ∧ Below w.heap.size w w' → RConvRet L l tc w e w') := ⟨fun e w' h => h⟩
  generalize cvE L l tc = V at *
  have HCr := Hd.mk fun a b w' (h : PrsU w' au L) => rCross_any L g au cu a b w' h
  have hlen := hl.len
  obtain ⟨n, hn⟩ : ∃ n, l.length = n := ⟨_, rfl⟩
  rw [hn] at hlen HBg HV HOKF HR ⊢
  have HN := Hd.mk hn
  have hszW : w.heap.size < W.heap.size := t0.lt
  have HSZ := Hd.mk hszW
  generalize L.length = NL at *
  obtain ⟨i0, hi, hz0, hz1, hz2⟩ := info_parts info_flowU
  clear hl hp hn g hW t0 b0
  by_cases h0 : bgF l tc = 0
  rotate_left
  · have hv := HV.out
    rw [if_pos h0] at hv
    subst hv
    have d1 : (bgF l tc != 0) = true := by rw [bne_iff_ne]; exact h0
    have HE := Hd.mk h0
    generalize bgF l tc = E at *
    clear h0 HV
    go_enter Tryz.func11, Tryz.ntmps11
    go_upto_region 1 with fail
    rw [HW.out]
    go_wp2_with fail
    refine HBg.out.mono ?_; rintro e w1 ⟨rfl, hb⟩
    have HB := Hd.mk (B0.out.trans (hb.mono B0.out.size))
    clear hb
    go_wp2_with fail
    exact bodyPost_ret (v := .tuple #[.slice none 0 0, .int .i64 E]) (by simp [results, Tryz.results11, go_sem]) rfl (HR.out _ _ ⟨Or.inr ⟨HE.out, rfl⟩, HB.out⟩)
  have HOK := Hd.mk (HOKF.out h0)
  have HV2 : Hd (V = feC L tc l n) := ⟨by rw [HV.out, if_neg (by omega)]⟩
  have h4k : n ≤ 4096 := by have := HOK.out.1; omega
  rw [h0] at HBg
  clear HV HOKF h0
  go_enter Tryz.func11, Tryz.ntmps11
  go_upto_region 1 with fail
  rw [HW.out]
  go_wp2_with fail
  refine HBg.out.mono ?_; rintro e w1 ⟨rfl, hb⟩
  have HB1 := Hd.mk (B0.out.trans (hb.mono B0.out.size))
  have T1 := Hd.mk (T0.out.below hb)
  have P1 := Hd.mk (HP.out.below hb)
  have F1 := Hd.mk (HF.out.below hb)
  clear hb HP HF T0
  go_wp2_with fail
  have hPW : Hd (∀ wr, Below w.heap.size w wr → PrsU wr au L) := ⟨fun wr h => HPW.out.below h⟩
  have hFW : Hd (∀ wr, Below w.heap.size w wr → FlwsU wr ad l) := ⟨fun wr h => HFW.out.below h⟩
  clear P1 F1
  go_loopw [9, 10] (fun sv iv wr => ∃ (k : Nat) (a : Option Addr) (cp : Nat), k ≤ n ∧ iv = .int .i64 k ∧ sv = .slice a k cp ∧ Hd (feC L tc l k = 0) ∧ Hd (wr.ownsRow (w.heap.size + 1) 102 3 (.slice a k cp) k (flU ((l.take k).map (cvF L tc)))) ∧ Hd (Below w.heap.size w wr) ∧ Hd (TBoxU wr w.heap.size (.slice au NL cu))) (fun _ iv _ => n - (intOf iv).toNat)
  case atStart => exact ⟨0, none, 0, Nat.zero_le _, rfl, rfl, ⟨rfl⟩, ⟨by simpa [flU] using World.ownsRow_nil _ _ _ _⟩, HB1, T1⟩
  case round =>
    clear HB1 T1
    obtain ⟨k, a, cp, hk, rfl, rfl, HE, HO, HB, T⟩ := hrel
    have t0 := T.out.cell
    by_cases hlt : k < n
    · have hlt' : (k : Int) < n := by omega
      have k0 : (0 : Int) ≤ k := by omega
      obtain ⟨bb, oo, rfl, c1, c2, c3⟩ := (hFW.out _ HB.out).cell k (by rw [HN.out]; exact hlt)
      have hF := HFW.out.wf k
      have hok := badF_ok (HOK.out.2 k hlt)
      have HFE : Hd (feC L tc l (k + 1) = fcF L tc (l.getD k fw0)) := ⟨by rw [feC, if_neg (by rw [HE.out]; decide)]⟩
      have HV3 : Hd (feC L tc l (k + 1) ≠ 0 → V = feC L tc l (k + 1)) := ⟨fun h => by
        have h2 := feC_stays L tc l (k + 1) h n (by omega)
        rw [HV2.out, h2]⟩
      have HTk : Hd (flU ((l.take (k + 1)).map (cvF L tc)) = flU ((l.take k).map (cvF L tc)) ++ [.int .i64 (l.getD k fw0).d, .int .u64 ((fmul (l.getD k fw0).x (crsT L (l.getD k fw0).c tc).1 : Nat) : Int), .int .i64 tc]) := ⟨by
        rw [take_snocF l k (by rw [HN.out]; omega), List.map_append, List.map_singleton, flU_snoc]; rfl⟩
      have HFF : Hd (fcF L tc (l.getD k fw0) = if (crsT L (l.getD k fw0).c tc).2 ≠ 0 then (crsT L (l.getD k fw0).c tc).2 else if fin (fmul (l.getD k fw0).x (crsT L (l.getD k fw0).c tc).1) then 0 else 91) := ⟨rfl⟩
      generalize hys : flU ((l.take (k + 1)).map (cvF L tc)) = ys at *
      have HYS := Hd.mk hys
      clear hys
      generalize flU ((l.take k).map (cvF L tc)) = xs at *
      rw [HFF.out] at HFE
      clear HFF
      generalize hE1 : feC L tc l (k + 1) = E1 at *
      have HEE := Hd.mk hE1
      clear hE1
      generalize hf : l.getD k fw0 = f at *
      obtain ⟨fd, fx, fc⟩ := f
      dsimp only at c1 c2 c3 hF hok HFE HTk
      have hCF := Hd.mk (crsT_F64 L fc tc)
      have HX := Hd.mk (HCr.out fc tc)
      unfold CrsRetU at HX
      generalize crsT L fc tc = Q at *
      obtain ⟨r1, r2⟩ := Q
      dsimp only at HX hCF HFE HTk
      have hwfx := Hd.mk hF
      have hsz : w.heap.size < wr.heap.size := T.out.lt
      have PD : Hd (PrsU wr.drew au L) := ⟨hPW.out _ HB.out.drew⟩
      clear hlt hok hf hF
      go_upto_region 8 with fail
      go_region_held3 (fun w' => w'.cell? ⟨w.heap.size, 0, none⟩ = some (.slice au NL cu) ∧ w'.cell? ⟨bb, oo + k * 3 + 2, none⟩ = some (.int .i64 fc)) (first | exact ⟨t0, c3⟩ | exact ⟨t1, d3⟩ | (refine ⟨?_, ?_⟩ <;> go_simp)) (first | (
        go_at_call 43
        refine (HX.out _ PD.out).mono ?_
        rintro en w3 ⟨rfl, hb⟩
        have t1 := cell_trP hb (show wr.drew.cell? ⟨w.heap.size, 0, none⟩ = _ from t0)
        have d1 := cell_trP hb (show wr.drew.cell? ⟨bb, oo + k * 3, none⟩ = _ from c1)
        have d2 := cell_trP hb (show wr.drew.cell? ⟨bb, oo + k * 3 + 1, none⟩ = _ from c2)
        have d3 := cell_trP hb (show wr.drew.cell? ⟨bb, oo + k * 3 + 2, none⟩ = _ from c3)
        have B3 : Hd (Below w.heap.size w w3) := ⟨HB.out.drew.trans (hb.mono HB.out.size)⟩
        have O3 : Hd (w3.ownsRow (w.heap.size + 1) 102 3 (.slice a k cp) k xs) := ⟨ownsRow_below (show wr.drew.ownsRow _ _ _ _ _ _ from HO.out) hb⟩
        have T3 : Hd (TBoxU w3 w.heap.size (.slice au NL cu)) := ⟨(show TBoxU wr.drew _ _ from T.out).below hb⟩
        clear hb))
      clear c1 c2 c3 t0 t1 HO HB T PD HX
      by_cases hr : r2 = 0
      · subst hr
        have HFE2 : Hd (E1 = if fin (fmul fx r1) then 0 else 91) := ⟨by rw [HFE.out, if_neg (by decide)]⟩
        have HMl := Hd.mk fun w' => rMul_any fx r1 hwfx.out hCF.out w'
        have hPF := F64_fmul fx r1
        unfold URet at HMl
        generalize fmul fx r1 = P at *
        have HNu := Hd.mk (rNumber_any P hPF)
        clear HFE hCF hwfx hPF
        cases hp : fin P
        · have he : E1 = 91 := by rw [HFE2.out, hp]; rfl
          have hv := HV3.out (by rw [he]; decide)
          rw [he] at hv
          subst hv
          rw [hp] at HNu
          clear HFE2 hp he HV2 HV3
          go_wp2_with fail
          refine (HMl.out _).mono ?_; rintro e w4 ⟨rfl, hb⟩
          have B4 := Hd.mk (B3.out.trans (hb.mono B3.out.size))
          clear hb
          go_wp2_with fail
          refine (HNu.out _).mono ?_; rintro e w' ⟨rfl, rfl⟩
          go_wp2_with fail
          exact bodyPost_ret (v := .tuple #[.slice none 0 0, .int .i64 91]) (by simp [results, Tryz.results11, go_sem]) rfl (HR.out _ _ ⟨Or.inr ⟨by decide, rfl⟩, B4.out⟩)
        · have he : E1 = 0 := by rw [HFE2.out, hp]; rfl
          have HE0 := Hd.mk (HEE.out.trans he)
          rw [hp] at HNu
          have HMx : Hd (k + 1 ≤ maxLen ∧ (k + 1) * 24 ≤ 140737488355328) := ⟨by unfold maxLen; omega, by omega⟩
          clear HFE2 hp HV3 he HEE
          go_wp2_with fail
          refine (HMl.out _).mono ?_; rintro e w4 ⟨rfl, hb⟩
          have B4 := Hd.mk (B3.out.trans (hb.mono B3.out.size))
          have O4 : Hd (w4.ownsRow (w.heap.size + 1) 102 3 (.slice a k cp) k xs) := ⟨ownsRow_below O3.out hb⟩
          have T4 := Hd.mk (T3.out.below hb)
          have e1 := cell_trP hb d1
          have hw4 : w.heap.size < w4.heap.size := T4.out.lt
          clear hb B3 O3 T3 d1 d2 d3 HMl
          go_wp2_with fail
          refine (HNu.out _).mono ?_; rintro e w' ⟨rfl, rfl⟩
          go_wp2_with (at_builtin; refine wpList_append_own _ rfl (.tmp 50) (.tmp 59) 31 rfl (w.heap.size + 1) 102 i0 (.agg #[.int .i64 0, .int .u64 0, .int .i64 0]) 3 24 Tryz.underlying31 hi hz0 hz1 hz2 rfl (by decide) (.slice a k cp) k xs rfl (O4.out.alloc _) ⟨w4.heap.size, 0, none⟩ 1 1 [.int .i64 fd, .int .u64 (P : Nat), .int .i64 tc] rfl rfl (by
            intro j u hj
            match j, hj with
            | 0, hj => simp at hj; subst hj; simp [Addr.add]
            | 1, hj => simp at hj; subst hj; simp [Addr.add]
            | 2, hj => simp at hj; subst hj; simp [Addr.add]) (by intro u hu; simp at hu; rcases hu with rfl | rfl | rfl <;> rfl) HMx.out.1 HMx.out.2 (by simp; omega) ?_)
          intro v' w5 ho2 hg2 he2
          obtain ⟨a', cp', rfl, ho3, hb3, hb4⟩ := rconv_step B4.out (by omega) (by omega) O4.out ho2 hg2
          rw [← HTk.out, ← HYS.out] at ho3
          have HO3 := Hd.mk ho3
          have HB3 := Hd.mk hb3
          have T5 : Hd (TBoxU w5 w.heap.size (.slice au NL cu)) := ⟨(hb4.block w.heap.size (by omega)).trans T4.out⟩
          clear ho2 hg2 he2 ho3 hb3 hb4 O4 B4 T4 e1
          go_wp2_with fail
          exact ⟨⟨k + 1, a', cp', by omega, by go_num, rfl, HE0, HO3, HB3, T5⟩, by simp [intOf]; omega⟩
      · have hv := HV3.out (by rw [HFE.out, if_pos hr]; exact hr)
        rw [HFE.out, if_pos hr] at hv
        subst hv
        have HE2 := Hd.mk hr
        have d4 : (V != 0) = true := by rw [bne_iff_ne]; exact hr
        clear hr
        go_wp2_with fail
        exact bodyPost_ret (v := .tuple #[.slice none 0 0, .int .i64 V]) (by simp [results, Tryz.results11, go_sem]) rfl (HR.out _ _ ⟨Or.inr ⟨HE2.out, rfl⟩, B3.out⟩)
    · have hge : ¬ (k : Int) < n := by omega
      obtain rfl : n = k := by omega
      have HTk : Hd (l.take n = l) := ⟨List.take_of_length_le (by rw [HN.out]; omega)⟩
      rw [HTk.out] at HO
      have hv : Hd (V = 0) := ⟨by rw [HV2.out]; exact HE.out⟩
      clear hlt
      go_wp2_with fail
      exact bodyPost_ret (v := .tuple #[.slice a n cp, .int .i64 0]) (by simp [results, Tryz.results11, go_sem]) rfl (HR.out _ _ ⟨Or.inl ⟨hv.out, a, cp, rfl, HO.out.mono (by omega)⟩, HB.out⟩)

end Go.Proofs.YteikihidblcljaaGreat
