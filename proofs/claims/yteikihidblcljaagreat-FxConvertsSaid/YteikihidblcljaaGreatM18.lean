/- Put together out of several texts: Yq Yt. -/
import Derived.Test.YteikihidblcljaaGreatM17
import Derived.Test.YteikihidblcljaaGreatM2
import Derived.Test.YteikihidblcljaaGreatM4

/- The walk of the reference's New (tenorref23). -/
namespace Go.Proofs.YteikihidblcljaaGreat
open Go.RowKit
set_option linter.unusedSimpArgs false
set_option linter.unusedVariables false

set_option maxHeartbeats 800000 in
theorem rCur_any (n : Int) (w : World) :
    Calls Tryz.prog 62 #[.int .i64 n] w fun e w' => e = .returned (.bool (okCy n)) ∧ w = w' := by
  have H : Hd (okCy n = decide (1 ≤ n ∧ n ≤ 8)) := ⟨rfl⟩
  by_cases h1 : 1 ≤ n
  · have H1 : Hd (okCy n = decide (n ≤ 8)) := ⟨by rw [H.out]; simp [h1]⟩
    clear H
    have d1 : decide (n ≥ 1) = true := by simpa using h1
    clear h1
    go_enter Tryz.func62, Tryz.ntmps62
    go_wp2_with fail
    go_ret
    exact ⟨ret_bool H1.out.symm, rfl⟩
  · have H1 : Hd (false = okCy n) := ⟨by rw [H.out]; simp [h1]⟩
    clear H
    have d1 : decide (n ≥ 1) = false := by simpa using h1
    clear h1
    go_enter Tryz.func62, Tryz.ntmps62
    go_wp2_with fail
    go_ret
    exact ⟨ret_bool H1.out, rfl⟩

/-- It returns the reference's table, or what is wrong. -/
def RNewRet (l : List Pr) (w : World) (e : Ending) (w' : World) : Prop :=
  (((newA l).1 = 0 ∧ ∃ a c, e = .returned (.tuple #[.agg #[.slice a l.length c], .int .i64 0, .int .i64 0]) ∧ PrsU w' a l) ∨ ((newA l).1 ≠ 0 ∧ e = .returned (.tuple #[.agg #[.slice none 0 0], .int .i64 (newA l).1, .int .i64 ((newA l).2 : Nat)]))) ∧ Below w.heap.size w w'
theorem TBoxU.set {w : World} {b : Nat} {v : Value} (h : TBoxU w b v) (u : Value) : TBoxU (w.setCell ⟨b, 0, none⟩ u) b u := by
  unfold TBoxU at *
  unfold World.setCell
  simp only [Array.getElem?_modify, h]
  simp
theorem tboxU2 (w : World) : ∃ W, ((w.alloc (.cells #[.slice none 0 0] 28)).alloc (.cells #[.slice none 0 0] 28)) = W ∧ TBoxU W w.heap.size (.slice none 0 0) ∧ TBoxU W (w.heap.size + 1) (.slice none 0 0) ∧ Below w.heap.size w W ∧ W.heap.size = w.heap.size + 2 := by
  refine ⟨_, rfl, ?_, ?_, ((Below.refl _ _).alloc (Nat.le_refl _) _).alloc (by simp) _, by simp⟩
  · unfold TBoxU World.alloc; (try simp [Array.getElem?_push, Array.getElem_push]); all_goals (try omega)
  · unfold TBoxU World.alloc; simp [Array.getElem?_push, Array.getElem_push]
theorem own_setU {w : World} {base : Nat} {t : TypeId} {size n : Nat} {v : Value} {xs : List Value} (h : w.ownsRow base t size v n xs) {b : Nat} (hb : b < base) (u : Value) : (w.setCell ⟨b, 0, none⟩ u).ownsRow base t size v n xs := ownsRow_setCell_below h (a := ⟨b, 0, none⟩) (by show b < base; exact hb) _
/-- The world behind the append of a pair to the reference's table. -/
theorem rnew_step {w wd w1 : World} {o : Obj} {k g cap : Nat} {v r : Value} {xs ys : List Value}
    (hown' : w1.ownsRow (w.heap.size + 2) 163 3 (.slice (some ⟨g, 0, none⟩) (k + 1) cap) (k + 1) ys) (hgrow : (wd.alloc o).grownBy w1 v.ownBlock)
    (OD : wd.ownsRow (w.heap.size + 2) 163 3 v k xs) (RD : TBoxU wd w.heap.size r) (BD : TBoxU wd (w.heap.size + 1) v) (HBD : Below w.heap.size w wd) :
    w1.frozen? ⟨w.heap.size + 1, 0, none⟩ = false ∧ w1.cell? ⟨w.heap.size + 1, 0, none⟩ = some v ∧
    Hd ((w1.setCell ⟨w.heap.size + 1, 0, none⟩ (.slice (some ⟨g, 0, none⟩) (k + 1) cap)).ownsRow (w.heap.size + 2) 163 3 (.slice (some ⟨g, 0, none⟩) (k + 1) cap) (k + 1) ys) ∧
    Hd (TBoxU (w1.setCell ⟨w.heap.size + 1, 0, none⟩ (.slice (some ⟨g, 0, none⟩) (k + 1) cap)) w.heap.size r) ∧
    Hd (TBoxU (w1.setCell ⟨w.heap.size + 1, 0, none⟩ (.slice (some ⟨g, 0, none⟩) (k + 1) cap)) (w.heap.size + 1) (.slice (some ⟨g, 0, none⟩) (k + 1) cap)) ∧
    Hd (Below w.heap.size w (w1.setCell ⟨w.heap.size + 1, 0, none⟩ (.slice (some ⟨g, 0, none⟩) (k + 1) cap))) := by
  have hlt := BD.lt
  have HG : Below (w.heap.size + 2) wd w1 := ((Below.refl _ _).alloc hlt o).grown hgrow (by simp; omega) (fun k hk => (OD.lt k hk).1)
  have G0 := RD.belowB HG (by omega)
  have G1 := BD.belowB HG (by omega)
  have GB := HBD.trans (HG.mono (by omega))
  refine ⟨G1.frozen _, G1.cell, ⟨own_setU hown' (by omega) _⟩, ⟨?_⟩, ⟨G1.set _⟩, ⟨GB.setCell (p := ⟨w.heap.size + 1, 0, none⟩) (by show _ ≤ w.heap.size + 1; omega) _⟩⟩
  exact (Below.heap_setCell w1 ⟨w.heap.size + 1, 0, none⟩ (.slice (some ⟨g, 0, none⟩) (k + 1) cap) w.heap.size (by show w.heap.size ≠ w.heap.size + 1; omega)).trans G0
theorem ltB_rt {x : Nat} (h : fin x = true) : ltB 0 x = okRt x := by
  rw [rt_rk h]
  unfold ltB
  rw [nn_0, nn_fin x h, rk_0]
  rfl
theorem PrsU.of_own {w : World} {base n c k : Nat} {a : Option Addr} {l : List Pr} (h : w.ownsRow base 163 3 (.slice a k c) k (prU (l.take k))) (hk : k ≤ l.length) (hw : ∀ k, F64 (l.getD k pr0).x) (hr : ∀ k, (-9223372036854775808 ≤ (l.getD k pr0).a ∧ (l.getD k pr0).a ≤ 9223372036854775807) ∧ (-9223372036854775808 ≤ (l.getD k pr0).b ∧ (l.getD k pr0).b ≤ 9223372036854775807)) (hl : l.length ≤ 9223372036854775807) : PrsU w a (l.take k) :=
  own_prsU h (by rw [List.length_take]; omega) (fun i => by rw [getD_takeP]; split; exact hw i; exact ⟨by decide⟩) (fun i => by rw [getD_takeP]; split; exact hr i; simp [pr0]) (by rw [List.length_take]; omega)

set_option maxHeartbeats 12800000 in
set_option maxRecDepth 100000 in
theorem rNew_any (ad : Option Addr) (l : List Pr) (c : Nat) (w : World) (hl : PrsU w ad l) :
    Calls Tryz.prog 37 #[.slice ad l.length c] w (RNewRet l w) := by
  have HP := Hd.mk hl
  obtain ⟨n, hn⟩ : ∃ n, l.length = n := ⟨_, rfl⟩
  have HN := Hd.mk hn
  have HRet : Hd (∀ e w', ((((newA l).1 = 0 ∧ ∃ a c, e = .returned (.tuple #[.agg #[.slice a n c], .int .i64 0, .int .i64 0]) ∧ PrsU w' a l) ∨ ((newA l).1 ≠ 0 ∧ e = .returned (.tuple #[.agg #[.slice none 0 0], .int .i64 (newA l).1, .int .i64 ((newA l).2 : Nat)]))) ∧ Below w.heap.size w w') → RNewRet l w e w') := ⟨fun e w' h => by unfold RNewRet; rw [hn]; exact h⟩
  have HBadR : Hd (∀ (E : Int) (j : Nat) (w' : World) e, newA l = (E, j) → E ≠ 0 → e = .returned (.tuple #[.agg #[.slice none 0 0], .int .i64 E, .int .i64 (j : Nat)]) → Below w.heap.size w w' → RNewRet l w e w') := ⟨fun E j w' e h1 h2 h3 h4 => ⟨Or.inr ⟨by rw [h1]; exact h2, by rw [h1]; exact h3⟩, h4⟩⟩
  rw [hn]
  have hlen := hl.len
  rw [hn] at hlen
  obtain ⟨W, hW, t0, t1, b0, sz⟩ := tboxU2 w
  have HW := Hd.mk hW
  have T0 := Hd.mk t0
  have T1 := Hd.mk t1
  have B0 := Hd.mk b0
  clear hW t0 t1 b0
  by_cases h28 : 28 < n
  · have HV : Hd (newA l = (2, 0)) := ⟨by unfold newA; rw [hn, if_pos h28]⟩
    have d1 : decide ((n : Int) > 28) = true := by simp; omega
    have r0 := T0.out.cell
    have r1 := T1.out.cell
    have f0 := T0.out.frozen
    clear hl hn h28
    go_enter Tryz.func37, Tryz.ntmps37
    go_upto_region 2 with fail
    rw [HW.out]
    go_wp2_with fail
    refine bodyPost_ret (v := .tuple #[.agg #[.slice none 0 0], .int .i64 2, .int .i64 0]) (by simp [results, Tryz.results37, go_sem, r0]) rfl (HBadR.out 2 0 _ _ HV.out (by decide) rfl ?_)
    repeat (refine Below.setCell ?_ (by simp <;> omega) _)
    exact B0.out
  have HV : Hd (newA l = newT l n) := ⟨by unfold newA; rw [hn, if_neg h28]⟩
  have d1 : decide ((n : Int) > 28) = false := by simp; omega
  have n28 : n ≤ 28 := by omega
  obtain ⟨i0, hi, hz0, hz1, hz2⟩ := info_parts info_pairU
  clear hl hn h28
  go_enter Tryz.func37, Tryz.ntmps37
  go_upto_region 2 with fail
  rw [HW.out]
  go_wp2_with fail
  have O0 : Hd (W.ownsRow (w.heap.size + 2) 163 3 (.slice none 0 0) 0 (prU (l.take 0))) := ⟨by simpa [prU] using World.ownsRow_nil _ _ _ _⟩
  go_loopw [6] (fun iv wr => ∃ (k : Nat) (a : Option Addr) (cp : Nat), k ≤ n ∧ iv = .int .i64 k ∧ Hd (newT l k = (0, 0)) ∧ Hd (TBoxU wr w.heap.size (.slice none 0 0)) ∧ Hd (TBoxU wr (w.heap.size + 1) (.slice a k cp)) ∧ Hd (wr.ownsRow (w.heap.size + 2) 163 3 (.slice a k cp) k (prU (l.take k))) ∧ Hd (Below w.heap.size w wr)) (fun iv _ => n - (intOf iv).toNat)
  case atStart => exact ⟨0, none, 0, Nat.zero_le _, rfl, ⟨rfl⟩, T0, T1, O0, B0⟩
  case round =>
    clear T0 T1 O0 B0
    obtain ⟨k, a, cp, hk, rfl, HC, TR, TB, HO, HB⟩ := hrel
    have hsz2 : w.heap.size + 1 < wr.heap.size := TB.out.lt
    by_cases hlt : k < n
    · have hlt' : (k : Int) < n := by omega
      have k0 : (0 : Int) ≤ k := by omega
      obtain ⟨bb, oo, rfl, c1, c2, c3⟩ := (HP.out.below HB.out).cell k (by rw [HN.out]; exact hlt)
      have hF := HP.out.wf k
      have hC0 : (newT l k).1 = 0 := by rw [HC.out]
      have HY : Hd (∀ c : Int, c ≠ 0 → newT l (k + 1) = (c, k) → newA l = (c, k)) := ⟨fun c hc h => by
        rw [HV.out, newT_stays l (k + 1) (by rw [h]; exact hc) n (by omega), h]⟩
      have H140 := Hd.mk (newT_140 hC0)
      have H1 := Hd.mk (newT_1 hC0)
      have H91 := Hd.mk (newT_91 hC0)
      have H230 := Hd.mk (newT_230 hC0)
      have HOK := Hd.mk (newT_ok l k hC0)
      have HGd := Hd.mk (newT_good l HP.out.wf k (by rw [HN.out]; omega) hC0)
      have HTk := Hd.mk (take_snocP l k (by rw [HN.out]; omega))
      have HPk : Hd (∀ wr, wr.ownsRow (w.heap.size + 2) 163 3 (.slice a k cp) k (prU (l.take k)) → PrsU wr a (l.take k)) := ⟨fun wr h => PrsU.of_own (n := 0) h (by rw [HN.out]; omega) HP.out.wf HP.out.rg HP.out.len⟩
      have HLk : Hd ((l.take k).length = k) := ⟨by rw [List.length_take, HN.out]; omega⟩
      generalize hpk : l.getD k pr0 = p at *
      obtain ⟨pa, pb, px⟩ := p
      dsimp only at c1 c2 c3 hF
      obtain ⟨V, hV, v1, q0, q1, q2⟩ := box_pairU wr pa pb px
      have HV1 := Hd.mk hV
      have B1 := Hd.mk (HB.out.trans (v1.mono HB.out.size))
      have R1 := Hd.mk (TR.out.below v1)
      have T1 := Hd.mk (TB.out.below v1)
      have O1 : Hd (V.ownsRow (w.heap.size + 2) 163 3 (.slice a k cp) k (prU (l.take k))) := ⟨ownsRow_below HO.out v1⟩
      have HKA := Hd.mk (rCur_any pa)
      have HKB := Hd.mk (rCur_any pb)
      have HNu := Hd.mk (rNumber_any px hF)
      have HLt := Hd.mk (rLt_any 0 px ⟨by decide⟩ hF)
      have z0 := R1.out.cell
      have z1 := T1.out.cell
      have fz0 := R1.out.frozen
      clear v1 hV hpk hlt HB TR TB HO
      cases ha : okCy pa
      · have HE := Hd.mk (HY.out 140 (by decide) (H140.out (Or.inl ha)))
        rw [ha] at HKA
        clear ha hF
        go_upto_region 8 with fail
        rw [HV1.out]
        go_wp2_with fail
        refine (HKA.out _).mono ?_; rintro e w' ⟨rfl, rfl⟩
        go_wp2_with fail
        refine bodyPost_ret (v := .tuple #[.agg #[.slice none 0 0], .int .i64 140, .int .i64 (k : Nat)]) (by simp [results, Tryz.results37, go_sem, z0]) rfl (HBadR.out 140 k _ _ HE.out (by decide) rfl ?_)
        repeat (refine Below.setCell ?_ (by simp <;> omega) _)
        exact B1.out
      cases hb : okCy pb
      · have HE := Hd.mk (HY.out 140 (by decide) (H140.out (Or.inr hb)))
        rw [ha] at HKA
        rw [hb] at HKB
        clear ha hb hF
        go_upto_region 8 with fail
        rw [HV1.out]
        go_wp2_with fail
        refine (HKA.out _).mono ?_; rintro e w' ⟨rfl, rfl⟩
        go_wp2_with fail
        refine (HKB.out _).mono ?_; rintro e w' ⟨rfl, rfl⟩
        go_wp2_with fail
        refine bodyPost_ret (v := .tuple #[.agg #[.slice none 0 0], .int .i64 140, .int .i64 (k : Nat)]) (by simp [results, Tryz.results37, go_sem, z0]) rfl (HBadR.out 140 k _ _ HE.out (by decide) rfl ?_)
        repeat (refine Below.setCell ?_ (by simp <;> omega) _)
        exact B1.out
      by_cases hab : pa = pb
      · have HE := Hd.mk (HY.out 1 (by decide) (H1.out ha hb hab))
        rw [ha] at HKA
        rw [hb] at HKB
        have d2 : (pa == pb) = true := by rw [beq_iff_eq]; exact hab
        clear ha hb hF hab
        go_upto_region 8 with fail
        rw [HV1.out]
        go_wp2_with fail
        refine (HKA.out _).mono ?_; rintro e w' ⟨rfl, rfl⟩
        go_wp2_with fail
        refine (HKB.out _).mono ?_; rintro e w' ⟨rfl, rfl⟩
        go_wp2_with fail
        refine bodyPost_ret (v := .tuple #[.agg #[.slice none 0 0], .int .i64 1, .int .i64 (k : Nat)]) (by simp [results, Tryz.results37, go_sem, z0]) rfl (HBadR.out 1 k _ _ HE.out (by decide) rfl ?_)
        repeat (refine Below.setCell ?_ (by simp <;> omega) _)
        exact B1.out
      have d2 : (pa == pb) = false := by rw [beq_eq_false_iff_ne]; exact hab
      cases hf : fin px
      · have HE := Hd.mk (HY.out 91 (by decide) (H91.out ha hb hab (by show okRt px = false; unfold okRt; rw [hf]; rfl)))
        rw [ha] at HKA
        rw [hb] at HKB
        rw [hf] at HNu
        clear ha hb hF hab hf
        go_upto_region 8 with fail
        rw [HV1.out]
        go_wp2_with fail
        refine (HKA.out _).mono ?_; rintro e w' ⟨rfl, rfl⟩
        go_wp2_with fail
        refine (HKB.out _).mono ?_; rintro e w' ⟨rfl, rfl⟩
        go_wp2_with fail
        refine (HNu.out _).mono ?_; rintro e w' ⟨rfl, rfl⟩
        go_wp2_with fail
        refine bodyPost_ret (v := .tuple #[.agg #[.slice none 0 0], .int .i64 91, .int .i64 (k : Nat)]) (by simp [results, Tryz.results37, go_sem, z0]) rfl (HBadR.out 91 k _ _ HE.out (by decide) rfl ?_)
        repeat (refine Below.setCell ?_ (by simp <;> omega) _)
        exact B1.out
      rw [ltB_rt hf] at HLt
      by_cases hr : okRt px = true
      rotate_left
      · have hr' : okRt px = false := by simpa using hr
        have HE := Hd.mk (HY.out 91 (by decide) (H91.out ha hb hab hr'))
        rw [hr'] at HLt
        rw [ha] at HKA
        rw [hb] at HKB
        rw [hf] at HNu
        clear ha hb hF hab hf hr hr'
        go_upto_region 8 with fail
        rw [HV1.out]
        go_wp2_with fail
        refine (HKA.out _).mono ?_; rintro e w' ⟨rfl, rfl⟩
        go_wp2_with fail
        refine (HKB.out _).mono ?_; rintro e w' ⟨rfl, rfl⟩
        go_wp2_with fail
        refine (HNu.out _).mono ?_; rintro e w' ⟨rfl, rfl⟩
        go_wp2_with fail
        refine (HLt.out _).mono ?_; rintro e w' ⟨rfl, rfl⟩
        go_wp2_with fail
        refine bodyPost_ret (v := .tuple #[.agg #[.slice none 0 0], .int .i64 91, .int .i64 (k : Nat)]) (by simp [results, Tryz.results37, go_sem, z0]) rfl (HBadR.out 91 k _ _ HE.out (by decide) rfl ?_)
        repeat (refine Below.setCell ?_ (by simp <;> omega) _)
        exact B1.out
      have H230' := Hd.mk fun h => HY.out 230 (by decide) (H230.out ha hb hab hr h)
      have HOK' := Hd.mk (HOK.out ha hb hab hr)
      have HWay := Hd.mk (rway_any (l.take k) pb HGd.out.tree HGd.out.pos a cp 9 0 pa V (Dep.top HGd.out.tree 0 pa) (HPk.out _ O1.out))
      rw [HLk.out] at HWay
      rw [hr] at HLt
      rw [ha] at HKA
      rw [hb] at HKB
      rw [hf] at HNu
      clear ha hb hab hf hr H140 H1 H91 H230 HOK HY
      go_upto_region 8 with fail
      rw [HV1.out]
      go_wp2_with fail
      refine (HKA.out _).mono ?_; rintro e w' ⟨rfl, rfl⟩
      go_wp2_with fail
      refine (HKB.out _).mono ?_; rintro e w' ⟨rfl, rfl⟩
      go_wp2_with fail
      refine (HNu.out _).mono ?_; rintro e w' ⟨rfl, rfl⟩
      go_wp2_with fail
      refine (HLt.out _).mono ?_; rintro e w' ⟨rfl, rfl⟩
      go_wp2_with fail
      refine HWay.out.mono ?_; rintro e w1 ⟨⟨l2, g1, k1, g2, k2, hw, rfl, _, _⟩ | ⟨hno, rfl⟩, hb⟩
      · have HE := Hd.mk (H230'.out ⟨l2, hw⟩)
        have B2 := Hd.mk (B1.out.trans (hb.mono B1.out.size))
        have R2 := Hd.mk (R1.out.below hb)
        obtain ⟨V4, hV4, _, _, v4⟩ := nbox2 w1 false g1 (nd (wM false l2)) k1 (wE false l2) false g2 (nd (wM true l2)) k2 (wE true l2)
        have HV4 := Hd.mk hV4
        have R3 := Hd.mk (R2.out.below v4)
        have B3 := Hd.mk (B2.out.trans (v4.mono B2.out.size))
        have y0 := R3.out.cell
        have fy0 := R3.out.frozen
        clear hw hb hV4 v4 z0 z1 q0 q1 q2
        generalize nd (wM false l2) = m1 at *
        generalize nd (wM true l2) = m2 at *
        generalize wE false l2 = E1 at *
        generalize wE true l2 = E2 at *
        go_upto_region 15 with fail
        rw [HV4.out]
        go_wp2_with fail
        refine bodyPost_ret (v := .tuple #[.agg #[.slice none 0 0], .int .i64 230, .int .i64 (k : Nat)]) (by simp [results, Tryz.results37, go_sem, y0]) rfl (HBadR.out 230 k _ _ HE.out (by decide) rfl ?_)
        repeat (refine Below.setCell ?_ (by simp <;> omega) _)
        exact B3.out
      · have HE := Hd.mk (HOK'.out fun ⟨l2, hw⟩ => hno l2 hw)
        have B2 := Hd.mk (B1.out.trans (hb.mono B1.out.size))
        obtain ⟨V4, hV4, _, _, v4⟩ := nbox2 w1 false none 0 0 0 false none 0 0 0
        have HV4 := Hd.mk hV4
        have R3 := Hd.mk ((R1.out.below hb).below v4)
        have T3 := Hd.mk ((T1.out.below hb).below v4)
        have B3 := Hd.mk (B2.out.trans (v4.mono B2.out.size))
        have O3 := Hd.mk (ownsRow_below (ownsRow_below O1.out hb) v4)
        have r0 := cell_trP v4 (cell_trP hb q0)
        have r1 := cell_trP v4 (cell_trP hb q1)
        have r2 := cell_trP v4 (cell_trP hb q2)
        have t0 := T3.out.cell
        have hwtb : w.heap.size + 2 ≤ V4.heap.size := T3.out.lt
        have HNV : Hd (prU (l.take k) ++ [.int .i64 pa, .int .i64 pb, .int .u64 (px : Nat)] = prU (l.take (k + 1))) := ⟨by rw [HTk.out, prU_snoc]⟩
        clear hno hb hV4 v4 z0 z1 q0 q1 q2
        go_upto_region 15 with fail
        rw [HV4.out]
        go_wp2_with (at_builtin; refine wpList_append_own _ rfl (.tmp 70) (.tmp 72) 26 rfl (w.heap.size + 2) 163 i0 (.agg #[.int .i64 0, .int .i64 0, .int .u64 0]) 3 24 Tryz.underlying26 hi hz0 hz1 hz2 rfl (by decide) (.slice a k cp) k (prU (l.take k)) rfl (O3.out.alloc _) ⟨V4.heap.size, 0, none⟩ 1 1 [.int .i64 pa, .int .i64 pb, .int .u64 (px : Nat)] rfl rfl (by
          intro j u hj
          match j, hj with
          | 0, hj => simp at hj; subst hj; simp [Addr.add]
          | 1, hj => simp at hj; subst hj; simp [Addr.add]
          | 2, hj => simp at hj; subst hj; simp [Addr.add]) (by intro u hu; simp at hu; rcases hu with rfl | rfl | rfl <;> rfl) (by unfold maxLen; omega) (by omega) (by simp; omega) ?_)
        intro v' w2 hown' hgrow hnil
        have hform : ∃ g cap, v' = .slice (some ⟨g, 0, none⟩) (k + 1) cap := by
          rcases hown'.2 with ⟨_, e2⟩ | ⟨g, cap, cur, e, _⟩
          · omega
          · exact ⟨g, cap, e⟩
        obtain ⟨g, cap, rfl⟩ := hform
        rw [HNV.out] at hown'
        obtain ⟨fz, x2n, HO', NR, N1, NB⟩ := rnew_step (w := w) (wd := V4) hown' hgrow O3.out R3.out T3.out B3.out
        clear hown' hgrow hnil HNV R3 T3 B3 O3 r0 r1 r2 t0
        go_wp2_with fail
        exact ⟨⟨k + 1, some ⟨g, 0, none⟩, cap, by omega, by go_num, HE, NR, N1, HO', NB⟩, by simp [intOf]; omega⟩
    · have hge : ¬ (k : Int) < n := by omega
      obtain rfl : n = k := by omega
      have HE : Hd ((newA l).1 = 0) := ⟨by rw [HV.out, HC.out]⟩
      have HTk : Hd (l.take n = l) := ⟨List.take_of_length_le (by rw [HN.out]; omega)⟩
      rw [HTk.out] at HO
      have y0 := TR.out.cell
      have y1 := TB.out.cell
      have fy0 := TR.out.frozen
      clear hlt
      go_wp2_with fail
      refine bodyPost_ret (v := .tuple #[.agg #[.slice a n cp], .int .i64 0, .int .i64 0]) (by simp [results, Tryz.results37, go_sem, y0, y1]) rfl (HRet.out _ _ ⟨Or.inl ⟨HE.out, a, cp, rfl, ?_⟩, ?_⟩)
      · exact own_prsU (own_setU HO.out (by omega) _) HN.out HP.out.wf HP.out.rg HP.out.len
      · repeat (refine Below.setCell ?_ (by simp <;> omega) _)
        exact HB.out

end Go.Proofs.YteikihidblcljaaGreat

/- The walks of the reference's Joined and Cross (tenorref23). -/
namespace Go.Proofs.YteikihidblcljaaGreat
open Go.RowKit
set_option linter.unusedSimpArgs false
set_option linter.unusedVariables false

theorem tboxUR (w : World) (v : Value) : ∃ W, (w.alloc (.cells #[v] 28)) = W ∧ TBoxU W w.heap.size v ∧ Below w.heap.size w W := by
  refine ⟨_, rfl, ?_, (Below.refl _ _).alloc (Nat.le_refl _) _⟩
  unfold TBoxU World.alloc; simp [Array.getElem?_push]
set_option maxHeartbeats 1600000 in
set_option maxRecDepth 100000 in
theorem rJoined_any (L : List Pr) (g : Good L) (au : Option Addr) (cu : Nat) (a b : Int) (w : World) (hp : PrsU w au L) :
    Calls Tryz.prog 88 #[.agg #[.slice au L.length cu], .int .i64 a, .int .i64 b] w fun e w' => e = .returned (.tuple #[.bool (jnT L a b).1, .int .i64 (jnT L a b).2]) ∧ Below w.heap.size w w' := by
  have HKA := Hd.mk (rCur_any a)
  have HKB := Hd.mk (rCur_any b)
  obtain ⟨W, hW, t0, b0⟩ := tboxUR w (.slice au L.length cu)
  have HW := Hd.mk hW
  have B0 := Hd.mk b0
  have hp0 := Hd.mk (hp.below b0)
  have r0 := t0.cell
  have HV1 : Hd (chkC a b ≠ 0 → jnT L a b = (false, 140)) := ⟨fun h => jnT_bad h⟩
  have HVn : Hd (chkC a b = 0 → (∀ l, ¬ Wk L 0 a b l) → jnT L a b = (false, 0)) := ⟨fun h hn => jnT_no h hn⟩
  have HVw : Hd (chkC a b = 0 → ∀ l, Wk L 0 a b l → jnT L a b = (true, 0)) := ⟨fun h l hw => jnT_yes h hw⟩
  have HWay := Hd.mk (rway_any L b g.tree g.pos au cu 9 0 a W (Dep.top g.tree 0 a) hp0.out)
  generalize jnT L a b = V at *
  generalize L.length = N at *
  clear hW t0 b0 hp
  cases ha : okCy a
  · have hv := HV1.out (by unfold chkC; rw [if_neg (by simp [ha])]; decide)
    subst hv
    rw [ha] at HKA
    clear ha
    go_enter Tryz.func88, Tryz.ntmps88
    go_upto_region 1 with fail
    rw [HW.out]
    go_wp2_with fail
    refine (HKA.out _).mono ?_; rintro e w' ⟨rfl, rfl⟩
    go_wp2_with fail
    go_ret2
    exact ⟨rfl, B0.out⟩
  cases hb : okCy b
  · have hv := HV1.out (by unfold chkC; rw [if_neg (by simp [hb])]; decide)
    subst hv
    rw [ha] at HKA
    rw [hb] at HKB
    clear ha hb
    go_enter Tryz.func88, Tryz.ntmps88
    go_upto_region 1 with fail
    rw [HW.out]
    go_wp2_with fail
    refine (HKA.out _).mono ?_; rintro e w' ⟨rfl, rfl⟩
    go_wp2_with fail
    refine (HKB.out _).mono ?_; rintro e w' ⟨rfl, rfl⟩
    go_wp2_with fail
    go_ret2
    exact ⟨rfl, B0.out⟩
  have h0 : chkC a b = 0 := by unfold chkC; rw [if_pos ⟨ha, hb⟩]
  have HVn2 := Hd.mk (HVn.out h0)
  have HVw2 := Hd.mk (HVw.out h0)
  rw [ha] at HKA
  rw [hb] at HKB
  clear ha hb h0 HV1 HVn HVw
  go_enter Tryz.func88, Tryz.ntmps88
  go_upto_region 1 with fail
  rw [HW.out]
  go_wp2_with fail
  refine (HKA.out _).mono ?_; rintro e w' ⟨rfl, rfl⟩
  go_wp2_with fail
  refine (HKB.out _).mono ?_; rintro e w' ⟨rfl, rfl⟩
  go_wp2_with fail
  refine HWay.out.mono ?_; rintro e w1 ⟨⟨l2, g1, k1, g2, k2, hw, rfl, _, _⟩ | ⟨hno, rfl⟩, hb⟩
  · have hv := HVw2.out l2 hw
    subst hv
    have B2 := Hd.mk (B0.out.trans (hb.mono B0.out.size))
    obtain ⟨V4, hV4, _, _, v4⟩ := nbox2 w1 false g1 (nd (wM false l2)) k1 (wE false l2) false g2 (nd (wM true l2)) k2 (wE true l2)
    have HV4 := Hd.mk hV4
    have B3 := Hd.mk (B2.out.trans (v4.mono B2.out.size))
    clear hw hb hV4 v4
    generalize nd (wM false l2) = m1 at *
    generalize nd (wM true l2) = m2 at *
    generalize wE false l2 = E1 at *
    generalize wE true l2 = E2 at *
    go_upto_region 4 with fail
    rw [HV4.out]
    go_wp2_with fail
    go_ret2
    exact ⟨rfl, B3.out⟩
  · have hv := HVn2.out hno
    subst hv
    have B2 := Hd.mk (B0.out.trans (hb.mono B0.out.size))
    obtain ⟨V4, hV4, _, _, v4⟩ := nbox2 w1 false none 0 0 0 false none 0 0 0
    have HV4 := Hd.mk hV4
    have B3 := Hd.mk (B2.out.trans (v4.mono B2.out.size))
    clear hno hb hV4 v4
    go_upto_region 4 with fail
    rw [HV4.out]
    go_wp2_with fail
    go_ret2
    exact ⟨rfl, B3.out⟩

/-- It returns a rate's word, or what is wrong. -/
def CrsRetU (v : Nat × Int) (w : World) (e : Ending) (w' : World) : Prop := e = .returned (.tuple #[.int .u64 (v.1 : Nat), .int .i64 v.2]) ∧ Below w.heap.size w w'
theorem near_quo (a : Option Addr) (d c : Nat) (e : Int) (a' : Option Addr) (d' c' : Nat) (e' : Int) (w : World) (h : Dgs w a d) (h' : Dgs w a' d') (hs : nd d ≤ 100) (hs' : nd d' ≤ 100) (h1 : d' ≠ 0) (he : -100000 ≤ e ∧ e ≤ 100000) (he' : -100000 ≤ e' ∧ e' ≤ 100000) :
    Calls Tryz.prog 89 #[.agg #[.bool false, .slice a (nd d) c, .int .i64 e], .agg #[.bool false, .slice a' (nd d') c', .int .i64 e']] w (URet (quo d e d' e') w) :=
  nearOver_any false a d c e false a' d' c' e' w h h' (by omega) (by omega) h1 (by omega) (by omega)

set_option maxHeartbeats 3200000 in
set_option maxRecDepth 100000 in
theorem rCross_any (L : List Pr) (g : Good L) (au : Option Addr) (cu : Nat) (a b : Int) (w : World) (hp : PrsU w au L) :
    Calls Tryz.prog 43 #[.agg #[.slice au L.length cu], .int .i64 a, .int .i64 b] w (CrsRetU (crsT L a b) w) := by
  obtain ⟨W, hW, t0, b0⟩ := tboxUR w (.slice au L.length cu)
  have HW := Hd.mk hW
  have B0 := Hd.mk b0
  have T0 := Hd.mk t0
  have hp0 := Hd.mk (hp.below b0)
  have HJ := Hd.mk (rJoined_any L g au cu a b W hp0.out)
  have HWay := Hd.mk fun w' (h : PrsU w' au L) => rway_any L b g.tree g.pos au cu 9 0 a w' (Dep.top g.tree 0 a) h
  have r0 := t0.cell
  have HMB := Hd.mk fun (l : List (Pr × Bool)) (hw : Wk L 0 a b l) k => wM_bd g.pos k l hw.mem
  have HEB := Hd.mk fun (l : List (Pr × Bool)) (hw : Wk L 0 a b l) k => wE_bd g.pos k l hw.mem
  have HSh := Hd.mk fun (l : List (Pr × Bool)) (hw : Wk L 0 a b l) => hw.short g.tree
  by_cases h : chkC a b = 0
  rotate_left
  · rw [jnT_bad h] at HJ
    have hv := crsT_bad (L := L) h
    generalize crsT L a b = V at *
    subst hv
    generalize L.length = N at *
    clear h hW t0 b0 hp
    go_enter Tryz.func43, Tryz.ntmps43
    go_upto_region 1 with fail
    rw [HW.out]
    go_wp2_with fail
    refine HJ.out.mono ?_; rintro e w1 ⟨rfl, hb⟩
    have B1 := Hd.mk (B0.out.trans (hb.mono B0.out.size))
    clear hb
    go_wp2_with fail
    go_ret2
    exact ⟨rfl, B1.out⟩
  by_cases hj : ∃ l, Wk L 0 a b l
  rotate_left
  · have hn : ∀ l, ¬ Wk L 0 a b l := fun l hw => hj ⟨l, hw⟩
    rw [jnT_no h hn] at HJ
    have hv := crsT_no h hn
    generalize crsT L a b = V at *
    subst hv
    generalize L.length = N at *
    clear h hW t0 b0 hp hj hn
    go_enter Tryz.func43, Tryz.ntmps43
    go_upto_region 1 with fail
    rw [HW.out]
    go_wp2_with fail
    refine HJ.out.mono ?_; rintro e w1 ⟨rfl, hb⟩
    have B1 := Hd.mk (B0.out.trans (hb.mono B0.out.size))
    clear hb
    go_wp2_with fail
    go_ret2
    exact ⟨rfl, B1.out⟩
  obtain ⟨l0, hl0⟩ := hj
  rw [jnT_yes h hl0] at HJ
  have HV : Hd (∀ l, Wk L 0 a b l → crsT L a b = crA l) := ⟨fun l hw => crsT_way g.tree.uq h hw⟩
  generalize crsT L a b = V at *
  have HL0 := Hd.mk (⟨l0, hl0⟩ : ∃ l, Wk L 0 a b l)
  generalize L.length = N at *
  clear h hW t0 b0 hp hl0
  go_enter Tryz.func43, Tryz.ntmps43
  go_upto_region 1 with fail
  rw [HW.out]
  go_wp2_with fail
  refine HJ.out.mono ?_; rintro e w1 ⟨rfl, hb⟩
  have B1 := Hd.mk (B0.out.trans (hb.mono B0.out.size))
  have T1 := Hd.mk (T0.out.below hb)
  have P1 := Hd.mk (hp0.out.below hb)
  have q0 := T1.out.cell
  clear hb
  go_wp2_with fail
  refine (HWay.out _ P1.out).mono ?_; rintro e w2 ⟨⟨l2, g1, k1, g2, k2, hw, rfl, hg1, hg2⟩ | ⟨hno, rfl⟩, hb⟩
  rotate_left
  · obtain ⟨l, hl⟩ := HL0.out
    exact absurd hl (hno l)
  have hv := HV.out l2 hw
  subst hv
  have B2 := Hd.mk (B1.out.trans (hb.mono B1.out.size))
  obtain ⟨V4, hV4, n1, n2, v4⟩ := nbox2 w2 false g1 (nd (wM false l2)) k1 (wE false l2) false g2 (nd (wM true l2)) k2 (wE true l2)
  have HV4 := Hd.mk hV4
  have B3 := Hd.mk (B2.out.trans (v4.mono B2.out.size))
  obtain ⟨x0, x1, x2⟩ := n1.cell
  obtain ⟨y0, y1, y2⟩ := n2.cell
  have m1 := HMB.out l2 hw false
  have m2 := HMB.out l2 hw true
  have e1 := HEB.out l2 hw false
  have e2 := HEB.out l2 hw true
  have hsh := HSh.out l2 hw
  have HNr := Hd.mk (near_quo g1 _ k1 _ g2 _ k2 _ V4 (hg1.below v4) (hg2.below v4) (nd_small m1.2 (by omega)) (nd_small m2.2 (by omega)) m2.1 (show -100000 ≤ wE false l2 ∧ wE false l2 ≤ 100000 by omega) (show -100000 ≤ wE true l2 ∧ wE true l2 ≤ 100000 by omega))
  have QF := quo_F64 (wM false l2) (wE false l2) (wM true l2) (wE true l2)
  have HA : Hd (crA l2 = if mg (crQ l2) = 0 ∨ fin (crQ l2) = false then (0, 91) else (crQ l2, 0)) := ⟨rfl⟩
  have HQ : Hd (quo (wM false l2) (wE false l2) (wM true l2) (wE true l2) = crQ l2) := ⟨rfl⟩
  rw [HQ.out] at QF HNr
  unfold URet at HNr
  have HNu := Hd.mk (rNumber_any (crQ l2) QF.1)
  have HSz := Hd.mk (rSize_any (crQ l2) QF.1)
  generalize crQ l2 = R at *
  generalize crA l2 = V at *
  clear hw hb hV4 v4 n1 n2 hg1 hg2 m1 m2 e1 e2 hsh HQ QF HV HMB HEB HSh HWay HJ
  generalize nd (wM false l2) = m1 at *
  generalize nd (wM true l2) = m2 at *
  generalize wE false l2 = E1 at *
  generalize wE true l2 = E2 at *
  go_upto_region 7 with fail
  rw [HV4.out]
  go_wp2_with fail
  refine HNr.out.mono ?_; rintro e w5 ⟨rfl, hb⟩
  have B4 := Hd.mk (B3.out.trans (hb.mono B3.out.size))
  clear hb
  cases hf : fin R
  · have hv := HA.out
    rw [if_pos (Or.inr hf)] at hv
    subst hv
    rw [hf] at HNu
    clear hf
    go_wp2_with fail
    refine (HNu.out _).mono ?_; rintro e w' ⟨rfl, rfl⟩
    go_wp2_with fail
    go_ret2
    exact ⟨rfl, B4.out⟩
  rw [hf] at HNu
  by_cases hz : mg R = 0
  · have hv := HA.out
    rw [if_pos (Or.inl hz)] at hv
    subst hv
    rw [hz] at HSz
    clear hf hz
    go_wp2_with fail
    refine (HNu.out _).mono ?_; rintro e w' ⟨rfl, rfl⟩
    go_wp2_with fail
    refine (HSz.out _).mono ?_; rintro e w' ⟨rfl, rfl⟩
    go_wp2_with fail
    go_ret2
    exact ⟨rfl, B4.out⟩
  · have hv := HA.out
    rw [if_neg (by simp [hz, hf])] at hv
    subst hv
    have d1 : ((mg R : Int) == 0) = false := by rw [beq_eq_false_iff_ne]; omega
    generalize (mg R : Int) = MR at *
    clear hf hz
    go_wp2_with fail
    refine (HNu.out _).mono ?_; rintro e w' ⟨rfl, rfl⟩
    go_wp2_with fail
    refine (HSz.out _).mono ?_; rintro e w' ⟨rfl, rfl⟩
    go_wp2_with fail
    go_ret2
    exact ⟨rfl, B4.out⟩

end Go.Proofs.YteikihidblcljaaGreat
