/- The walk of life's Roll. -/
import Derived.Test.YteikihidblcljaaQhC
import Derived.StillTailTactics
namespace Go.Proofs.Yteikihidblcljaa
open Go.RowKit
set_option linter.unusedSimpArgs false
set_option linter.unusedVariables false

/-- What Roll returns. -/
def RollRet (b kind : Int) (D : List Int) (F : List Nat) (n : Int) (w : World) (e : Ending) (w' : World) : Prop :=
  ((rollE b kind D F n = 0 ∧ ∃ p1 p2 m, e = .returned (.tuple #[.agg #[.int .i64 n, .int .i64 kind, .slice (some p1) m m, .slice (some p2) m m], .int .i64 0]) ∧ m = D.length - kR D n ∧ Tbl w' (some p1) (rollD D n) (some p2) (rollF D F n (rollX b kind D F n))) ∨
   (rollE b kind D F n ≠ 0 ∧ e = .returned (.tuple #[.agg #[.int .i64 0, .int .i64 0, .slice none 0 0, .slice none 0 0], .int .i64 (rollE b kind D F n)]))) ∧ Below w.heap.size w w'

set_option maxHeartbeats 12800000 in
set_option maxRecDepth 100000 in
theorem roll_good (b kind : Int) (ax : Option Addr) (X : List Int) (cx : Nat) (ay : Option Addr) (Y : List Nat) (cy : Nat) (n : Int) (w : World) (ht : Tbl w ax X ay Y) (hc : chkU b kind X Y = 0) (h1 : b ≤ n) (h2 : n < lastT X) :
    Calls Try.prog 42 #[.agg #[.int .i64 b, .int .i64 kind, .slice ax X.length cx, .slice ay Y.length cy], .int .i64 n] w (RollRet b kind X Y n w) := by
  obtain ⟨W, hW, b1, b2, b3, b4⟩ := box_cc w b kind ax X.length cx ay Y.length cy
  have HW := Hd.mk hW
  have B1 := Hd.mk b1
  have B2 := Hd.mk b2
  have B3 := Hd.mk b3
  have HT := Hd.mk (ht.belowK b3)
  have HC := Hd.mk fun w' h => curveCheck_any b kind ax X cx ay Y cy w' h
  have HF := Hd.mk fun w' h => curveFactor_any b kind ax X cx ay Y cy n w' h
  have ok := chkU_ok hc
  obtain ⟨x0, x1, x2, x3, -⟩ := rollX_ok ok ht.fy.wf h1 (Int.le_of_lt h2)
  rw [hc] at HC
  have eF : facU b kind X Y n = (rollX b kind X Y n, 0) := by unfold facU; rw [if_pos hc, x0]
  rw [eF] at HF
  unfold AtRet at HF
  obtain ⟨s1, s2, s3⟩ := kR_split ok n
  have kl := kR_lt ok h2
  have HRE : Hd (∀ q, (q ↔ ∀ i, i < X.length → kR X n ≤ i → okQ (fdiv (Y.getD i 0) (rollX b kind X Y n)) = true) → (q → rollE b kind X Y n = 0) ∧ (¬ q → rollE b kind X Y n = 91)) := ⟨fun q hq => by
    have e : rollE b kind X Y n = if (∀ i, i < X.length → kR X n ≤ i → okQ (fdiv (Y.getD i 0) (rollX b kind X Y n)) = true) then 0 else 91 := by
      unfold rollE; rw [if_neg (by omega), if_neg (by omega)]
    exact ⟨fun h => by rw [e, if_pos (hq.1 h)], fun h => by rw [e, if_neg (fun h' => h (hq.2 h'))]⟩⟩
  have HOk : Hd (∀ i, i < X.length → fin (Y.getD i 0) = true) := ⟨ok.fn⟩
  have HW64 := Hd.mk ht.fy.wf
  have hw3 : mg (rollX b kind X Y n) ≠ 0 := (ng_of_pos x3).2
  have HQ : Hd (∀ i, i < X.length → ∀ w', fres .quo (Y.getD i 0) (rollX b kind X Y n) w' = fdiv (Y.getD i 0) (rollX b kind X Y n) ∧ w'.drewN (fcnt .quo (Y.getD i 0) (rollX b kind X Y n)) = w') := ⟨fun i hi w' => ⟨fres_quoQ (ht.fy.wf i) x1 (ok.fn i hi) x2 hw3 w', fcnt_quoQ (ht.fy.wf i) x1 (ok.fn i hi) x2 hw3 w'⟩⟩
  have HNN : Hd (∀ i, i < X.length → nn (fdiv (Y.getD i 0) (rollX b kind X Y n)) = false) := ⟨fun i hi => nnDiv (ht.fy.wf i) x1 (nn_fin _ (ok.fn i hi)) x2 hw3⟩
  have HR : Hd (∀ e w', (((rollE b kind X Y n = 0 ∧ ∃ p1 p2 m, e = .returned (.tuple #[.agg #[.int .i64 n, .int .i64 kind, .slice (some p1) m m, .slice (some p2) m m], .int .i64 0]) ∧ m = X.length - kR X n ∧ Tbl w' (some p1) (rollD X n) (some p2) (rollF X Y n (rollX b kind X Y n))) ∨
   (rollE b kind X Y n ≠ 0 ∧ e = .returned (.tuple #[.agg #[.int .i64 0, .int .i64 0, .slice none 0 0, .slice none 0 0], .int .i64 (rollE b kind X Y n)]))) ∧ Below w.heap.size w w') → RollRet b kind X Y n w e w') := ⟨fun e w' h => h⟩
  have n255 := ok.n2
  have n1 := ok.n1
  have ln := ok.ln
  obtain ⟨m, hm⟩ : ∃ m, X.length = m := ⟨_, rfl⟩
  have HM := Hd.mk hm
  have HMY : Hd (Y.length = m) := ⟨by rw [ln, hm]⟩
  rw [ln, hm] at HC HF B1 b1 hW HW
  rw [ln, hm]
  rw [hm] at s1 kl n255 n1 HQ HNN HOk HRE HR
  generalize rollX b kind X Y n = x at *
  generalize rollE b kind X Y n = E at *
  have HS2 : Hd (∀ i, i < kR X n → X.getD i 0 ≤ n) := ⟨s2⟩
  have HS3 : Hd (∀ i, kR X n ≤ i → i < m → n < X.getD i 0) := ⟨by rw [hm] at s3; exact s3⟩
  have hlast : n < X.getD (m - 1) 0 := by unfold lastT at h2; rw [hm] at h2; exact h2
  obtain ⟨bx, ox, rfl, hcx⟩ := HT.out.ix.cell (m - 1) (by rw [HM.out]; omega)
  obtain ⟨p0, p1, p2, p3⟩ := b1.cell
  have d1 := decide_eq_false (show ¬ n < b by omega)
  obtain ⟨k, hkR⟩ : ∃ k, kR X n = k := ⟨_, rfl⟩
  have HKR := Hd.mk hkR
  rw [hkR] at s1 kl HRE HR HS2 HS3
  generalize hL : X.getD (m - 1) 0 = L at *
  have d2 : decide (L ≤ n) = false := decide_eq_false (by omega)
  have i1 : ((m : Int) - 1).toNat = m - 1 := by omega
  have i2 : IntKind.i64.wrap ((m : Int) - 1) = (m : Int) - 1 := IntWalk.i64_in _ (by omega)
  have i3 : (0 : Int) ≤ (m : Int) - 1 := by omega
  have i4 : (m : Int) - 1 < m := by omega
  clear ok s2 s3 ln hm b1 b2 b3 b4 hW ht hc h1 h2 x0 x2 x3 hw3 eF hL hlast
  go_enter Try.func42, Try.ntmps42
  go_upto_region 1 with fail
  rw [HW.out]
  go_wp2_with fail
  refine (HC.out _ HT.out).mono ?_; rintro e w1 ⟨rfl, hb⟩
  have C1 := Hd.mk (B3.out.trans (hb.mono B3.out.size))
  have T1 := Hd.mk (HT.out.belowK hb)
  have U1 := Hd.mk (B1.out.below hb)
  have V1 := Hd.mk (B2.out.below hb)
  have hcx1 := (hb.cell (World.block_lt_of_cell? _ _ hcx)).trans hcx
  clear hb p0 p1 p2 p3 hcx
  obtain ⟨p0, p1, p2, p3⟩ := U1.out.cell
  go_wp2_with fail
  refine (HF.out _ T1.out).mono ?_; rintro e w2 ⟨rfl, hb⟩
  have C2 := Hd.mk (C1.out.trans (hb.mono C1.out.size))
  have T2 := Hd.mk (T1.out.belowK hb)
  have U2 := Hd.mk (U1.out.below hb)
  have V2 := Hd.mk (V1.out.below hb)
  clear hb p0 p1 p2 p3 C1 T1 U1 V1 hcx1 HC HF
  obtain ⟨p0, p1, p2, p3⟩ := U2.out.cell
  obtain ⟨V, hV, b1, b2⟩ := box_c w2 n kind none 0 0 none 0 0
  have b3 : V.heap.size = w2.heap.size + 1 := by rw [← hV]; simp
  have HV := Hd.mk hV
  have BO := Hd.mk b1
  have HB2 := Hd.mk b2
  have HS := Hd.mk b3
  have U3 := Hd.mk (U2.out.below b2)
  clear hV b1 b2 b3
  go_upto_region 10 with fail
  rw [HV.out]
  clear p0 p1 p2 p3
  obtain ⟨p0, p1, p2, p3⟩ := U3.out.cell
  go_wp2_with fail
  have RL0 : Hd (RlS w2.heap.size w2 V n kind X Y x k 0 none 0 none 0) := ⟨⟨⟨by simpa [rwD] using World.ownsRow_nil _ _ _ _, by simpa [rwF] using World.ownsRow_nil _ _ _ _, fun g e => by simp [Value.ownBlock] at e, Below.refl _ _, by rw [HS.out]; exact Nat.le_refl _⟩, by simpa using BO.out, HB2.out⟩⟩
  have hU2 : w.heap.size < w2.heap.size := U2.out.lt
  have hV2 : w.heap.size + 1 < w2.heap.size := V2.out.lt
  clear p0 p1 p2 p3 BO HB2 HS U3 HV
  go_loopw [53] (fun iv wr => ∃ (i : Nat) (aD : Option Addr) (cD : Nat) (aF : Option Addr) (cF : Nat), i ≤ m ∧ iv = .int .i64 i ∧ Hd (RlS w2.heap.size w2 wr n kind X Y x k i aD cD aF cF) ∧ Hd (∀ j, j < i → k ≤ j → okQ (fdiv (Y.getD j 0) x) = true)) (fun iv _ => m - (intOf iv).toNat)
  case atStart => exact ⟨0, none, 0, none, 0, Nat.zero_le _, rfl, RL0, ⟨fun j h => absurd h (Nat.not_lt_zero _)⟩⟩
  case round =>
    clear RL0 V
    obtain ⟨i, aD, cD, aF, cF, hi, rfl, HL, HA⟩ := hrel
    obtain ⟨p0, p1, p2, p3⟩ := (U2.out.belowN HL.out.fr hU2).cell
    obtain ⟨q0, q1, q2, q3⟩ := HL.out.bx.cell
    by_cases hlt : i < m
    · have hlt' : (i : Int) < m := by omega
      have k0 : (0 : Int) ≤ i := by omega
      obtain ⟨bb, oo, e, hcx⟩ := (T2.out.belowK HL.out.fr).ix.cell i (by rw [HM.out]; exact hlt)
      cases e
      obtain ⟨by_, oy, rfl, hcy⟩ := (T2.out.belowK HL.out.fr).fy.at i (by rw [HMY.out]; exact hlt)
      by_cases hik : i < k
      · have d3 := decide_eq_true (HS2.out i hik)
        have HL2 := Hd.mk (HL.out.skip hik)
        have HA2 : Hd (∀ j, j < i + 1 → k ≤ j → okQ (fdiv (Y.getD j 0) x) = true) := ⟨fun j h1 h2 => by omega⟩
        clear hlt hik HL HA q0 q1 q2 q3 p0 p1
        generalize X.getD i 0 = dd at *
        go_wp2_with fail
        exact ⟨⟨i + 1, aD, cD, aF, cF, by omega, by go_num, HL2, HA2⟩, by simp [intOf]; omega⟩
      · have d3 := decide_eq_false (show ¬ X.getD i 0 ≤ n by have := HS3.out i (by omega) hlt; omega)
        have HQi := Hd.mk (HQ.out i hlt)
        have HNi := HNN.out i hlt
        have HFi := HW64.out i
        have HA2 : Hd (okQ (fdiv (Y.getD i 0) x) = true → ∀ j, j < i + 1 → k ≤ j → okQ (fdiv (Y.getD j 0) x) = true) := ⟨fun h j h1 h2 => by
          by_cases e : j = i
          · rw [e]; exact h
          · exact HA.out j (by omega) h2⟩
        have HBad : Hd (okQ (fdiv (Y.getD i 0) x) = false → E = 91) := ⟨fun h => (HRE.out False (by
          constructor
          · intro h; exact h.elim
          · intro h2; have := h2 i hlt (by omega); rw [h] at this; cases this)).2 (fun h => h)⟩
        have HXi : Hd ((X.take (i + 1)).drop k = (X.take i).drop k ++ [X.getD i 0]) := ⟨take_drop_step X 0 (by omega) (by rw [HM.out]; exact hlt)⟩
        have HYi : Hd ((Y.take (i + 1)).drop k = (Y.take i).drop k ++ [Y.getD i 0]) := ⟨take_drop_step Y 0 (by omega) (by rw [HMY.out]; exact hlt)⟩
        generalize X.getD i 0 = dd at *
        generalize Y.getD i 0 = y at *
        have hm1 : ∀ w' : World, fres .quo y x w' = fdiv y x := fun w' => (HQi.out w').1
        have hm2 : ∀ w' : World, w'.drewN (fcnt .quo y x) = w' := fun w' => (HQi.out w').2
        have fq := F64_fdiv y x
        have oq := okQ_eq fq HNi
        have HNm := Hd.mk (lifeNumber_any (fdiv y x) fq)
        have HYi2 : Hd ((fun f => fdiv f x) y = fdiv y x) := ⟨rfl⟩
        have hok : okQ (fdiv y x) = (fin (fdiv y x) && !(mg (fdiv y x) == 0)) := rfl
        clear HQi HA
        generalize fdiv y x = q at *
        obtain ⟨WE, hE', hE1, hE2, hE3⟩ := roll_put (V2.out.belowN HL.out.fr hV2) (C2.out.trans (HL.out.fr.mono C2.out.size)) 0 0 none 0 0 none 0 0
        have HE' := Hd.mk hE'
        have HE2 := Hd.mk hE2
        obtain ⟨g0, g1, g2, g3⟩ := hE1.cell
        obtain ⟨r0, r1, r2, r3⟩ := (V2.out.belowN HL.out.fr hV2).cell
        have fz := (V2.out.belowN HL.out.fr hV2).lies
        clear hE1 hE2 hE3 hE'
        cases hmz : decide (mg q = 0)
        rotate_left
        · have hz : mg q = 0 := of_decide_eq_true hmz
          rw [hmz] at oq
          have HE := Hd.mk (HBad.out (by rw [hok, hz]; simp))
          clear hok hz hmz HNm HNi HA2 HBad hlt hik HXi HYi HYi2 HRE HNN HQ HL q0 q1 q2 q3 p0 p1
          go_wp2_with fail
          rw [HE'.out]
          exact bodyPost_ret (v := .tuple #[.agg #[.int .i64 0, .int .i64 0, .slice none 0 0, .slice none 0 0], .int .i64 91]) (by simp [results, Try.results42, go_sem, g0, g1, g2, g3]) rfl (HR.out _ _ ⟨Or.inr ⟨by rw [HE.out]; decide, by rw [HE.out]⟩, HE2.out⟩)
        rw [hmz] at oq
        cases hfi : fin q
        · have HE := Hd.mk (HBad.out (by rw [hok, hfi]; rfl))
          rw [hfi] at HNm
          clear hok hmz hfi HNi HA2 HBad hlt hik HXi HYi HYi2 HRE HNN HQ HL q0 q1 q2 q3 p0 p1
          go_wp2_with fail
          refine (HNm.out _).mono ?_; rintro e w5 ⟨rfl, rfl⟩
          go_wp2_with fail
          rw [HE'.out]
          exact bodyPost_ret (v := .tuple #[.agg #[.int .i64 0, .int .i64 0, .slice none 0 0, .slice none 0 0], .int .i64 91]) (by simp [results, Try.results42, go_sem, g0, g1, g2, g3]) rfl (HR.out _ _ ⟨Or.inr ⟨by rw [HE.out]; decide, by rw [HE.out]⟩, HE2.out⟩)
        · have HA3 := Hd.mk (HA2.out (by rw [hok, hfi]; have := of_decide_eq_false hmz; simp [this]))
          rw [hfi] at HNm
          clear hok hmz hfi HNi HA2 HBad HRE HNN HQ g0 g1 g2 g3 HE' HE2 r0 r1 r2 r3 fz p0 p1
          go_wp2_with fail
          refine (HNm.out _).mono ?_; rintro e w5 ⟨rfl, rfl⟩
          go_upto_region 17 with fail
          have hki : k ≤ i := by omega
          have HMx : Hd (i - k + 1 ≤ maxLen ∧ (i - k + 1) * 8 ≤ 140737488355328) := ⟨by unfold maxLen; omega, by omega⟩
          have hXn : rwD X k (i + 1) = rwD X k i ++ [dd] := HXi.out
          have hYn : rwF Y x k (i + 1) = rwF Y x k i ++ [q] := by
            unfold rwF
            rw [HYi.out, List.map_append, List.map_cons, List.map_nil, HYi2.out]
          obtain ⟨i0, hi0, hz0, hz1, hz2⟩ := info_parts info_intQ
          obtain ⟨j0, gi, gz0, gz1, gz2⟩ := info_parts info_fltQ
          have HLd : Hd (RlS w2.heap.size w2 wr.drew n kind X Y x k i aD cD aF cF) := ⟨⟨⟨HL.out.rs.od, HL.out.rs.of, HL.out.rs.ne, Below.refl _ _, HL.out.rs.hb⟩, HL.out.bx, HL.out.fr.drew⟩⟩
          obtain ⟨wd, hwd⟩ : ∃ wd, wr.drew = wd := ⟨_, rfl⟩
          rw [hwd] at HLd
          have rs0 := HLd.out.rs
          have hbx := HLd.out.bx
          have hS := hbx.c23 (Below.refl _ _)
          clear HL HNm HXi HYi HYi2 q0 q1 q2 q3 p2 p3 hcx hcy d3 oq hm1 hm2 hlt hik
          refine wp_region_noPanic ?_
          refine wp_region_T (fun w' => w'.cell? ⟨w2.heap.size, 2, none⟩ = some (.slice aD (i - k) cD) ∧ w'.cell? ⟨w2.heap.size, 3, none⟩ = some (.slice aF (i - k) cF)) 11 (by kernel_rfl) ?_
          rw [hwd]
          refine AnyT.take0 (i := 0) (v := (.pointer (some ⟨w2.heap.size, 2, none⟩))) rfl (by kernel_rfl) (by kernel_rfl) (by kernel_rfl) (by decide) (fun _ _ _ h => h) (Or.inl ⟨by rfl, ?_⟩) (fun _ => hS) ?_
          · intro w _
            go_simp
          (try simp only [Act.put, List.setIfInBounds_toArray, List.set_cons_zero, List.set_cons_succ])
          refine AnyT.take (i := 1) (v := (.slice aD (i - k) cD)) rfl rfl (by kernel_rfl) (by kernel_rfl) (by kernel_rfl) (by kernel_rfl) (by kernel_rfl) (by decide) (fun _ _ _ h => h) (Or.inl ⟨by rfl, ?_⟩) hS ?_
          · intro w hw
            obtain ⟨hw2, hw3⟩ := hw
            go_simp
          (try simp only [Act.put, List.setIfInBounds_toArray, List.set_cons_zero, List.set_cons_succ])
          refine AnyT.take0 (i := 2) (v := (.int .i64 dd)) rfl (by kernel_rfl) (by kernel_rfl) (by kernel_rfl) (by decide) (fun _ _ _ h => h) (Or.inl ⟨by rfl, ?_⟩) (fun _ => hS) ?_
          · intro w _
            go_simp
          (try simp only [Act.put, List.setIfInBounds_toArray, List.set_cons_zero, List.set_cons_succ])
          refine AnyT.take0 (i := 5) (v := (.pointer (some ⟨w2.heap.size, 3, none⟩))) rfl (by kernel_rfl) (by kernel_rfl) (by kernel_rfl) (by decide) (fun _ _ _ h => h) (Or.inl ⟨by rfl, ?_⟩) (fun _ => hS) ?_
          · intro w _
            go_simp
          (try simp only [Act.put, List.setIfInBounds_toArray, List.set_cons_zero, List.set_cons_succ])
          refine AnyT.take (i := 6) (v := (.slice aF (i - k) cF)) rfl rfl (by kernel_rfl) (by kernel_rfl) (by kernel_rfl) (by kernel_rfl) (by kernel_rfl) (by decide) (fun _ _ _ h => h) (Or.inl ⟨by rfl, ?_⟩) hS ?_
          · intro w hw
            obtain ⟨hw2, hw3⟩ := hw
            go_simp
          (try simp only [Act.put, List.setIfInBounds_toArray, List.set_cons_zero, List.set_cons_succ])
          refine AnyT.take0 (i := 7) (v := (.float .f64 q)) rfl (by kernel_rfl) (by kernel_rfl) (by kernel_rfl) (by decide) (fun _ _ _ h => h) (Or.inl ⟨by rfl, ?_⟩) (fun _ => hS) ?_
          · intro w _
            go_simp
          (try simp only [Act.put, List.setIfInBounds_toArray, List.set_cons_zero, List.set_cons_succ])
          refine AnyT.all (rs := [3, 8]) (by kernel_rfl) (by simp) ?_
          intro j hj
          obtain rfl | rfl : j = 3 ∨ j = 8 := by simpa using hj
          all_goals clear hj
          · skip
            refine AnyT.one (o := _) rfl (fun K hK => ?_)
            go_simp
            obtain ⟨W1, hW1, rs1, bl1, bk1⟩ := rs0.build (.int .i64 dd) 3
            rw [hW1]
            have hS := hbx.c23 rs1.bel
            refine hK.out _ _ (fun _ => hS) ?_
            clear hK K hW1
            (try simp only [Act.put, List.setIfInBounds_toArray, List.set_cons_zero, List.set_cons_succ])
            refine AnyT.all (rs := [4, 8]) (by kernel_rfl) (by simp) ?_
            intro j hj
            obtain rfl | rfl : j = 4 ∨ j = 8 := by simpa using hj
            all_goals clear hj
            · skip
              refine AnyT.one (o := _) rfl (fun K hK => ?_)
              refine step_append_lies _ rfl (.tmp 77) (.tmp 79) 57 (by rfl) (w2.heap.size + 1) 3 i0 (.int .i64 0) 1 8 Try.underlying57 hi0 hz0 hz1 hz2 rfl (by decide) (.slice aD (i - k) cD) (i - k) ((rwD X k i).map (Value.int .i64)) (by rfl) rs1.od ⟨wd.heap.size, 0, none⟩ 1 1 [.int .i64 dd] (by rfl) rfl (news1 bl1.cell) (by intro u hu; simp at hu; subst hu; rfl) (by decide) HMx.out.1 HMx.out.2 rs1.hb _ rfl ?_
              intro gD cD' W2 hown hgrow hat _
              obtain ⟨rs2, bk2⟩ := rs1.appD hown hgrow hat
              have hS := hbx.c23 rs2.bel
              refine hK.out _ _ (fun _ => hS) ?_
              clear hK K hown hgrow hat
              (try simp only [Act.put, List.setIfInBounds_toArray, List.set_cons_zero, List.set_cons_succ])
              refine AnyT.take0 (i := 10) (v := (.pointer (some ⟨w2.heap.size, 2, none⟩))) rfl (by kernel_rfl) (by kernel_rfl) (by kernel_rfl) (by decide) (fun _ _ _ h => h) (Or.inl ⟨by rfl, ?_⟩) (fun _ => hS) ?_
              · intro w _
                go_simp
              (try simp only [Act.put, List.setIfInBounds_toArray, List.set_cons_zero, List.set_cons_succ])
              refine AnyT.all (rs := [8]) (by kernel_rfl) (by simp) ?_
              intro j hj
              obtain rfl : j = 8 := by simpa using hj
              clear hj
              refine AnyT.one (o := _) rfl (fun K hK => ?_)
              go_simp
              obtain ⟨W3, hW3, rs3, bl3, bk3⟩ := rs2.build (.float .f64 q) 28
              rw [hW3]
              have hS := hbx.c23 rs3.bel
              refine hK.out _ _ (fun _ => hS) ?_
              clear hK K hW3
              (try simp only [Act.put, List.setIfInBounds_toArray, List.set_cons_zero, List.set_cons_succ])
              refine AnyT.all (rs := [9]) (by kernel_rfl) (by simp) ?_
              intro j hj
              obtain rfl : j = 9 := by simpa using hj
              clear hj
              refine AnyT.one (o := _) rfl (fun K hK => ?_)
              refine step_append_lies _ rfl (.tmp 82) (.tmp 84) 58 (by rfl) (w2.heap.size + 1) 28 j0 (.float .f64 0) 1 8 Try.underlying58 gi gz0 gz1 gz2 rfl (by decide) (.slice aF (i - k) cF) (i - k) ((rwF Y x k i).map (Value.float .f64)) (by rfl) rs3.of ⟨W2.heap.size, 0, none⟩ 1 1 [.float .f64 q] (by rfl) rfl (news1 bl3.cell) (by intro u hu; simp at hu; subst hu; rfl) (by decide) HMx.out.1 HMx.out.2 rs3.hb _ rfl ?_
              intro gF cF' W4 hown hgrow hat _
              obtain ⟨rs4, bk4⟩ := rs3.appF hown hgrow hat
              have hS := hbx.c23 rs4.bel
              refine hK.out _ _ (fun _ => hS) ?_
              clear hK K hown hgrow hat
              (try simp only [Act.put, List.setIfInBounds_toArray, List.set_cons_zero, List.set_cons_succ])
              have hbX := hbx.belowN rs4.bel (Nat.lt_succ_self _)
              obtain ⟨z0, z1, z2, z3⟩ := hbX.cell
              have fzX := hbX.lies
              refine AnyT.all (rs := [11]) (by kernel_rfl) (by simp) ?_
              intro j hj
              obtain rfl : j = 11 := by simpa using hj
              clear hj
              refine AnyT.one (o := _) rfl (fun K hK => ?_)
              go_simp
              refine hK.out _ _ (fun h => absurd h (by decide)) ?_
              clear hK K
              (try simp only [Act.put, List.setIfInBounds_toArray, List.set_cons_zero, List.set_cons_succ])
              refine AnyT.take0 (i := 12) (v := (.pointer (some ⟨w2.heap.size, 3, none⟩))) rfl (by kernel_rfl) (by kernel_rfl) (by kernel_rfl) (by decide) (fun _ _ _ h => h) (Or.inl ⟨by rfl, ?_⟩) (fun h => absurd h (by decide)) ?_
              · intro w _
                go_simp
              (try simp only [Act.put, List.setIfInBounds_toArray, List.set_cons_zero, List.set_cons_succ])
              refine AnyT.all (rs := [13]) (by kernel_rfl) (by simp) ?_
              intro j hj
              obtain rfl : j = 13 := by simpa using hj
              clear hj
              refine AnyT.one (o := _) rfl (fun K hK => ?_)
              go_simp
              refine hK.out _ _ (fun h => absurd h (by decide)) ?_
              clear hK K
              (try simp only [Act.put, List.setIfInBounds_toArray, List.set_cons_zero, List.set_cons_succ])
              refine AnyT.done (by kernel_rfl) ?_ _
              refine NoPanic.normal ?_
              obtain ⟨WN, hWN, hRL⟩ := HLd.out.next hki rs4 hXn hYn
              rw [hWN]
              have HRL := Hd.mk hRL
              clear hRL hWN rs4 hbX z0 z1 z2 z3 fzX hS
              go_wp2_with fail
              exact ⟨⟨i + 1, some ⟨gD, 0, none⟩, cD', some ⟨gF, 0, none⟩, cF', by omega, by go_num, HRL, HA3⟩, by simp [intOf]; omega⟩
            · skip
              refine AnyT.one (o := _) rfl (fun K hK => ?_)
              go_simp
              obtain ⟨W2, hW2, rs2, bl2, bk2⟩ := rs1.build (.float .f64 q) 28
              rw [hW2]
              have hS := hbx.c23 rs2.bel
              refine hK.out _ _ (fun _ => hS) ?_
              clear hK K hW2
              (try simp only [Act.put, List.setIfInBounds_toArray, List.set_cons_zero, List.set_cons_succ])
              refine AnyT.all (rs := [4]) (by kernel_rfl) (by simp) ?_
              intro j hj
              obtain rfl : j = 4 := by simpa using hj
              clear hj
              refine AnyT.one (o := _) rfl (fun K hK => ?_)
              refine step_append_lies _ rfl (.tmp 77) (.tmp 79) 57 (by rfl) (w2.heap.size + 1) 3 i0 (.int .i64 0) 1 8 Try.underlying57 hi0 hz0 hz1 hz2 rfl (by decide) (.slice aD (i - k) cD) (i - k) ((rwD X k i).map (Value.int .i64)) (by rfl) rs2.od ⟨wd.heap.size, 0, none⟩ 1 1 [.int .i64 dd] (by rfl) rfl (news1 (bk2 _ _ bl1).cell) (by intro u hu; simp at hu; subst hu; rfl) (by decide) HMx.out.1 HMx.out.2 rs2.hb _ rfl ?_
              intro gD cD' W3 hown hgrow hat _
              obtain ⟨rs3, bk3⟩ := rs2.appD hown hgrow hat
              have hS := hbx.c23 rs3.bel
              refine hK.out _ _ (fun _ => hS) ?_
              clear hK K hown hgrow hat
              (try simp only [Act.put, List.setIfInBounds_toArray, List.set_cons_zero, List.set_cons_succ])
              refine AnyT.take0 (i := 10) (v := (.pointer (some ⟨w2.heap.size, 2, none⟩))) rfl (by kernel_rfl) (by kernel_rfl) (by kernel_rfl) (by decide) (fun _ _ _ h => h) (Or.inl ⟨by rfl, ?_⟩) (fun _ => hS) ?_
              · intro w _
                go_simp
              (try simp only [Act.put, List.setIfInBounds_toArray, List.set_cons_zero, List.set_cons_succ])
              refine AnyT.all (rs := [9]) (by kernel_rfl) (by simp) ?_
              intro j hj
              obtain rfl : j = 9 := by simpa using hj
              clear hj
              refine AnyT.one (o := _) rfl (fun K hK => ?_)
              refine step_append_lies _ rfl (.tmp 82) (.tmp 84) 58 (by rfl) (w2.heap.size + 1) 28 j0 (.float .f64 0) 1 8 Try.underlying58 gi gz0 gz1 gz2 rfl (by decide) (.slice aF (i - k) cF) (i - k) ((rwF Y x k i).map (Value.float .f64)) (by rfl) rs3.of ⟨W1.heap.size, 0, none⟩ 1 1 [.float .f64 q] (by rfl) rfl (news1 (bk3 _ _ bl2).cell) (by intro u hu; simp at hu; subst hu; rfl) (by decide) HMx.out.1 HMx.out.2 rs3.hb _ rfl ?_
              intro gF cF' W4 hown hgrow hat _
              obtain ⟨rs4, bk4⟩ := rs3.appF hown hgrow hat
              have hS := hbx.c23 rs4.bel
              refine hK.out _ _ (fun _ => hS) ?_
              clear hK K hown hgrow hat
              (try simp only [Act.put, List.setIfInBounds_toArray, List.set_cons_zero, List.set_cons_succ])
              have hbX := hbx.belowN rs4.bel (Nat.lt_succ_self _)
              obtain ⟨z0, z1, z2, z3⟩ := hbX.cell
              have fzX := hbX.lies
              refine AnyT.all (rs := [11]) (by kernel_rfl) (by simp) ?_
              intro j hj
              obtain rfl : j = 11 := by simpa using hj
              clear hj
              refine AnyT.one (o := _) rfl (fun K hK => ?_)
              go_simp
              refine hK.out _ _ (fun h => absurd h (by decide)) ?_
              clear hK K
              (try simp only [Act.put, List.setIfInBounds_toArray, List.set_cons_zero, List.set_cons_succ])
              refine AnyT.take0 (i := 12) (v := (.pointer (some ⟨w2.heap.size, 3, none⟩))) rfl (by kernel_rfl) (by kernel_rfl) (by kernel_rfl) (by decide) (fun _ _ _ h => h) (Or.inl ⟨by rfl, ?_⟩) (fun h => absurd h (by decide)) ?_
              · intro w _
                go_simp
              (try simp only [Act.put, List.setIfInBounds_toArray, List.set_cons_zero, List.set_cons_succ])
              refine AnyT.all (rs := [13]) (by kernel_rfl) (by simp) ?_
              intro j hj
              obtain rfl : j = 13 := by simpa using hj
              clear hj
              refine AnyT.one (o := _) rfl (fun K hK => ?_)
              go_simp
              refine hK.out _ _ (fun h => absurd h (by decide)) ?_
              clear hK K
              (try simp only [Act.put, List.setIfInBounds_toArray, List.set_cons_zero, List.set_cons_succ])
              refine AnyT.done (by kernel_rfl) ?_ _
              refine NoPanic.normal ?_
              obtain ⟨WN, hWN, hRL⟩ := HLd.out.next hki rs4 hXn hYn
              rw [hWN]
              have HRL := Hd.mk hRL
              clear hRL hWN rs4 hbX z0 z1 z2 z3 fzX hS
              go_wp2_with fail
              exact ⟨⟨i + 1, some ⟨gD, 0, none⟩, cD', some ⟨gF, 0, none⟩, cF', by omega, by go_num, HRL, HA3⟩, by simp [intOf]; omega⟩
          · skip
            refine AnyT.one (o := _) rfl (fun K hK => ?_)
            go_simp
            obtain ⟨W1, hW1, rs1, bl1, bk1⟩ := rs0.build (.float .f64 q) 28
            rw [hW1]
            have hS := hbx.c23 rs1.bel
            refine hK.out _ _ (fun _ => hS) ?_
            clear hK K hW1
            (try simp only [Act.put, List.setIfInBounds_toArray, List.set_cons_zero, List.set_cons_succ])
            refine AnyT.all (rs := [3]) (by kernel_rfl) (by simp) ?_
            intro j hj
            obtain rfl : j = 3 := by simpa using hj
            clear hj
            refine AnyT.one (o := _) rfl (fun K hK => ?_)
            go_simp
            obtain ⟨W2, hW2, rs2, bl2, bk2⟩ := rs1.build (.int .i64 dd) 3
            rw [hW2]
            have hS := hbx.c23 rs2.bel
            refine hK.out _ _ (fun _ => hS) ?_
            clear hK K hW2
            (try simp only [Act.put, List.setIfInBounds_toArray, List.set_cons_zero, List.set_cons_succ])
            refine AnyT.all (rs := [4]) (by kernel_rfl) (by simp) ?_
            intro j hj
            obtain rfl : j = 4 := by simpa using hj
            clear hj
            refine AnyT.one (o := _) rfl (fun K hK => ?_)
            refine step_append_lies _ rfl (.tmp 77) (.tmp 79) 57 (by rfl) (w2.heap.size + 1) 3 i0 (.int .i64 0) 1 8 Try.underlying57 hi0 hz0 hz1 hz2 rfl (by decide) (.slice aD (i - k) cD) (i - k) ((rwD X k i).map (Value.int .i64)) (by rfl) rs2.od ⟨W1.heap.size, 0, none⟩ 1 1 [.int .i64 dd] (by rfl) rfl (news1 bl2.cell) (by intro u hu; simp at hu; subst hu; rfl) (by decide) HMx.out.1 HMx.out.2 rs2.hb _ rfl ?_
            intro gD cD' W3 hown hgrow hat _
            obtain ⟨rs3, bk3⟩ := rs2.appD hown hgrow hat
            have hS := hbx.c23 rs3.bel
            refine hK.out _ _ (fun _ => hS) ?_
            clear hK K hown hgrow hat
            (try simp only [Act.put, List.setIfInBounds_toArray, List.set_cons_zero, List.set_cons_succ])
            refine AnyT.take0 (i := 10) (v := (.pointer (some ⟨w2.heap.size, 2, none⟩))) rfl (by kernel_rfl) (by kernel_rfl) (by kernel_rfl) (by decide) (fun _ _ _ h => h) (Or.inl ⟨by rfl, ?_⟩) (fun _ => hS) ?_
            · intro w _
              go_simp
            (try simp only [Act.put, List.setIfInBounds_toArray, List.set_cons_zero, List.set_cons_succ])
            refine AnyT.all (rs := [9]) (by kernel_rfl) (by simp) ?_
            intro j hj
            obtain rfl : j = 9 := by simpa using hj
            clear hj
            refine AnyT.one (o := _) rfl (fun K hK => ?_)
            refine step_append_lies _ rfl (.tmp 82) (.tmp 84) 58 (by rfl) (w2.heap.size + 1) 28 j0 (.float .f64 0) 1 8 Try.underlying58 gi gz0 gz1 gz2 rfl (by decide) (.slice aF (i - k) cF) (i - k) ((rwF Y x k i).map (Value.float .f64)) (by rfl) rs3.of ⟨wd.heap.size, 0, none⟩ 1 1 [.float .f64 q] (by rfl) rfl (news1 (bk3 _ _ (bk2 _ _ bl1)).cell) (by intro u hu; simp at hu; subst hu; rfl) (by decide) HMx.out.1 HMx.out.2 rs3.hb _ rfl ?_
            intro gF cF' W4 hown hgrow hat _
            obtain ⟨rs4, bk4⟩ := rs3.appF hown hgrow hat
            have hS := hbx.c23 rs4.bel
            refine hK.out _ _ (fun _ => hS) ?_
            clear hK K hown hgrow hat
            (try simp only [Act.put, List.setIfInBounds_toArray, List.set_cons_zero, List.set_cons_succ])
            have hbX := hbx.belowN rs4.bel (Nat.lt_succ_self _)
            obtain ⟨z0, z1, z2, z3⟩ := hbX.cell
            have fzX := hbX.lies
            refine AnyT.all (rs := [11]) (by kernel_rfl) (by simp) ?_
            intro j hj
            obtain rfl : j = 11 := by simpa using hj
            clear hj
            refine AnyT.one (o := _) rfl (fun K hK => ?_)
            go_simp
            refine hK.out _ _ (fun h => absurd h (by decide)) ?_
            clear hK K
            (try simp only [Act.put, List.setIfInBounds_toArray, List.set_cons_zero, List.set_cons_succ])
            refine AnyT.take0 (i := 12) (v := (.pointer (some ⟨w2.heap.size, 3, none⟩))) rfl (by kernel_rfl) (by kernel_rfl) (by kernel_rfl) (by decide) (fun _ _ _ h => h) (Or.inl ⟨by rfl, ?_⟩) (fun h => absurd h (by decide)) ?_
            · intro w _
              go_simp
            (try simp only [Act.put, List.setIfInBounds_toArray, List.set_cons_zero, List.set_cons_succ])
            refine AnyT.all (rs := [13]) (by kernel_rfl) (by simp) ?_
            intro j hj
            obtain rfl : j = 13 := by simpa using hj
            clear hj
            refine AnyT.one (o := _) rfl (fun K hK => ?_)
            go_simp
            refine hK.out _ _ (fun h => absurd h (by decide)) ?_
            clear hK K
            (try simp only [Act.put, List.setIfInBounds_toArray, List.set_cons_zero, List.set_cons_succ])
            refine AnyT.done (by kernel_rfl) ?_ _
            refine NoPanic.normal ?_
            obtain ⟨WN, hWN, hRL⟩ := HLd.out.next hki rs4 hXn hYn
            rw [hWN]
            have HRL := Hd.mk hRL
            clear hRL hWN rs4 hbX z0 z1 z2 z3 fzX hS
            go_wp2_with fail
            exact ⟨⟨i + 1, some ⟨gD, 0, none⟩, cD', some ⟨gF, 0, none⟩, cF', by omega, by go_num, HRL, HA3⟩, by simp [intOf]; omega⟩
    · obtain rfl : m = i := by omega
      have hge : ¬ (m : Int) < m := by omega
      obtain ⟨gD, _, eD, hD1, hD2, hD3, hDi⟩ := ins_of_ownQ HL.out.rs.od (rwD_len X (by rw [HM.out]; exact Nat.le_refl _)) (by omega) (roll_wfD T2.out.ix.wf _ _) (by rw [rwD_len X (by rw [HM.out]; exact Nat.le_refl _)]; omega)
      obtain ⟨gF, _, eF, hF1, hF2, hF3, hFi⟩ := fls_of_ownQ HL.out.rs.of (rwF_len Y x (by rw [HMY.out]; exact Nat.le_refl _)) (by omega) (roll_wfF _ _ _ _) (by rw [rwF_len Y x (by rw [HMY.out]; exact Nat.le_refl _)]; omega)
      cases eD
      cases eF
      have HE := Hd.mk ((HRE.out _ (Iff.rfl)).1 (fun j h1 h2 => HA.out j h1 h2))
      have HTf : Hd (Tbl wr (some ⟨gD, 0, none⟩) (rollD X n) (some ⟨gF, 0, none⟩) (rollF X Y n x)) := ⟨by
        have t1 : rwD X k m = rollD X n := by unfold rwD rollD; rw [HKR.out]; rw [List.take_of_length_le (by rw [HM.out]; exact Nat.le_refl _)]
        have t2 : rwF Y x k m = rollF X Y n x := by unfold rwF rollF; rw [HKR.out]; rw [List.take_of_length_le (by rw [HMY.out]; exact Nat.le_refl _)]
        rw [← t1, ← t2]
        exact ⟨hDi, hFi⟩⟩
      obtain ⟨wd, hwd⟩ : ∃ wd, wr.drew = wd := ⟨_, rfl⟩
      have HLd : Hd (RlS w2.heap.size w2 wd n kind X Y x k m (some ⟨gD, 0, none⟩) cD (some ⟨gF, 0, none⟩) cF) := ⟨by rw [← hwd]; exact ⟨⟨HL.out.rs.od, HL.out.rs.of, HL.out.rs.ne, Below.refl _ _, HL.out.rs.hb⟩, HL.out.bx, HL.out.fr.drew⟩⟩
      have hTd : ∀ j : Nat, wd.heap[j]? = wr.heap[j]? := fun j => by rw [← hwd]; rfl
      obtain ⟨WO, hWO, o1, o2⟩ : ∃ WO, ((wd.setCell ⟨w2.heap.size, 2, none⟩ (.slice (some ⟨gD, 0, none⟩) (m - k) (m - k))).setCell ⟨w2.heap.size, 3, none⟩ (.slice (some ⟨gF, 0, none⟩) (m - k) (m - k))) = WO ∧
          BoxC WO w2.heap.size n kind (some ⟨gD, 0, none⟩) (m - k) (m - k) (some ⟨gF, 0, none⟩) (m - k) (m - k) ∧ ∀ j : Nat, j ≠ w2.heap.size → WO.heap[j]? = wr.heap[j]? :=
        ⟨_, rfl, setC_two HLd.out.bx _ _ _ _ _ _, fun j hj => by rw [Below.heap_setCell _ _ _ _ hj, Below.heap_setCell _ _ _ _ hj]; exact hTd j⟩
      have HWO := Hd.mk hWO
      have oB : Below w2.heap.size w2 WO := by
        rw [← hWO]
        exact (HLd.out.fr.setCell (Nat.le_refl _) _).setCell (Nat.le_refl _) _
      have oV : BoxC WO (w.heap.size + 1) 0 0 none 0 0 none 0 0 := V2.out.belowN oB hV2
      obtain ⟨WE, hE', hE1, hE2, hE3⟩ := roll_put oV (C2.out.trans (oB.mono C2.out.size)) n kind (some ⟨gD, 0, none⟩) (m - k) (m - k) (some ⟨gF, 0, none⟩) (m - k) (m - k)
      have HE' := Hd.mk hE'
      have HE2 := Hd.mk hE2
      have HTE : Hd (Tbl WE (some ⟨gD, 0, none⟩) (rollD X n) (some ⟨gF, 0, none⟩) (rollF X Y n x)) := ⟨by
        have hg : ∀ j : Nat, w2.heap.size + 1 ≤ j → WE.heap[j]? = wr.heap[j]? := fun j hj => (hE3 (w2.heap.size + 1) (by omega) j hj).trans (o2 j (by omega))
        exact tbl_blocks HTf.out (hg gD hD1) (hg gF hF1)⟩
      obtain ⟨g0, g1, g2, g3⟩ := hE1.cell
      obtain ⟨t0, t1, t2, t3⟩ := o1.cell
      obtain ⟨r0, r1, r2, r3⟩ := oV.cell
      have fz := oV.lies
      have fb := HLd.out.bx.lies
      obtain ⟨z0, z1, z2, z3⟩ := HLd.out.bx.cell
      have hS := HLd.out.bx.c23 (Below.refl _ _)
      clear hWO oB oV hE' hE1 hE2 hE3 o1 o2 HTf hDi hFi hD1 hF1 HA HL hlt q0 q1 q2 q3 p0 p1 HRE HQ HNN HOk HW64 hTd HLd
      go_upto_region 19 with fail
      refine wp_region_noPanic ?_
      refine wp_region_T (fun w' => w'.cell? ⟨w2.heap.size, 2, none⟩ = some (.slice (some ⟨gD, 0, none⟩) (m - k) cD) ∧ w'.cell? ⟨w2.heap.size, 3, none⟩ = some (.slice (some ⟨gF, 0, none⟩) (m - k) cF)) 7 (by kernel_rfl) ?_
      rw [hwd]
      refine AnyT.take0 (i := 0) (v := (.pointer (some ⟨w2.heap.size, 2, none⟩))) rfl (by kernel_rfl) (by kernel_rfl) (by kernel_rfl) (by decide) (fun _ _ _ h => h) (Or.inl ⟨by rfl, ?_⟩) (fun _ => hS) ?_
      · intro w _
        go_simp
      (try simp only [Act.put, List.setIfInBounds_toArray, List.set_cons_zero, List.set_cons_succ])
      refine AnyT.take (i := 1) (v := (.slice (some ⟨gD, 0, none⟩) (m - k) cD)) rfl rfl (by kernel_rfl) (by kernel_rfl) (by kernel_rfl) (by kernel_rfl) (by kernel_rfl) (by decide) (fun _ _ _ h => h) (Or.inl ⟨by rfl, ?_⟩) hS ?_
      · intro w hw
        obtain ⟨hw2, hw3⟩ := hw
        go_simp
      (try simp only [Act.put, List.setIfInBounds_toArray, List.set_cons_zero, List.set_cons_succ])
      refine AnyT.take0 (i := 3) (v := (.pointer (some ⟨w2.heap.size, 3, none⟩))) rfl (by kernel_rfl) (by kernel_rfl) (by kernel_rfl) (by decide) (fun _ _ _ h => h) (Or.inl ⟨by rfl, ?_⟩) (fun _ => hS) ?_
      · intro w _
        go_simp
      (try simp only [Act.put, List.setIfInBounds_toArray, List.set_cons_zero, List.set_cons_succ])
      refine AnyT.take (i := 4) (v := (.slice (some ⟨gF, 0, none⟩) (m - k) cF)) rfl rfl (by kernel_rfl) (by kernel_rfl) (by kernel_rfl) (by kernel_rfl) (by kernel_rfl) (by decide) (fun _ _ _ h => h) (Or.inl ⟨by rfl, ?_⟩) hS ?_
      · intro w hw
        obtain ⟨hw2, hw3⟩ := hw
        go_simp
      (try simp only [Act.put, List.setIfInBounds_toArray, List.set_cons_zero, List.set_cons_succ])
      refine AnyT.all (rs := [2]) (by kernel_rfl) (by simp) ?_
      intro j hj
      obtain rfl : j = 2 := by simpa using hj
      clear hj
      refine AnyT.one (o := _) rfl (fun K hK => ?_)
      go_simp
      refine (clipI_any _ _ _ hD2 hD3 _).mono ?_; rintro e w5 ⟨rfl, rfl⟩
      refine hK.out _ _ (fun _ => hS) ?_
      clear hK K
      (try simp only [Act.put, List.setIfInBounds_toArray, List.set_cons_zero, List.set_cons_succ])
      refine AnyT.take0 (i := 6) (v := (.pointer (some ⟨w2.heap.size, 2, none⟩))) rfl (by kernel_rfl) (by kernel_rfl) (by kernel_rfl) (by decide) (fun _ _ _ h => h) (Or.inl ⟨by rfl, ?_⟩) (fun _ => hS) ?_
      · intro w _
        go_simp
      (try simp only [Act.put, List.setIfInBounds_toArray, List.set_cons_zero, List.set_cons_succ])
      refine AnyT.all (rs := [5]) (by kernel_rfl) (by simp) ?_
      intro j hj
      obtain rfl : j = 5 := by simpa using hj
      clear hj
      refine AnyT.one (o := _) rfl (fun K hK => ?_)
      go_simp
      refine (clipG_any _ _ _ hF2 hF3 _).mono ?_; rintro e w5 ⟨rfl, rfl⟩
      refine hK.out _ _ (fun _ => hS) ?_
      clear hK K
      (try simp only [Act.put, List.setIfInBounds_toArray, List.set_cons_zero, List.set_cons_succ])
      refine AnyT.all (rs := [7]) (by kernel_rfl) (by simp) ?_
      intro j hj
      obtain rfl : j = 7 := by simpa using hj
      clear hj
      refine AnyT.one (o := _) rfl (fun K hK => ?_)
      go_simp
      refine hK.out _ _ (fun h => absurd h (by decide)) ?_
      clear hK K
      (try simp only [Act.put, List.setIfInBounds_toArray, List.set_cons_zero, List.set_cons_succ])
      refine AnyT.take0 (i := 8) (v := (.pointer (some ⟨w2.heap.size, 3, none⟩))) rfl (by kernel_rfl) (by kernel_rfl) (by kernel_rfl) (by decide) (fun _ _ _ h => h) (Or.inl ⟨by rfl, ?_⟩) (fun h => absurd h (by decide)) ?_
      · intro w _
        go_simp
      (try simp only [Act.put, List.setIfInBounds_toArray, List.set_cons_zero, List.set_cons_succ])
      refine AnyT.all (rs := [9]) (by kernel_rfl) (by simp) ?_
      intro j hj
      obtain rfl : j = 9 := by simpa using hj
      clear hj
      refine AnyT.one (o := _) rfl (fun K hK => ?_)
      go_simp
      refine hK.out _ _ (fun h => absurd h (by decide)) ?_
      clear hK K
      (try simp only [Act.put, List.setIfInBounds_toArray, List.set_cons_zero, List.set_cons_succ])
      refine AnyT.done (by kernel_rfl) ?_ _
      refine NoPanic.normal ?_
      rw [HWO.out]
      go_wp2_with fail
      rw [HE'.out]
      exact bodyPost_ret (v := .tuple #[.agg #[.int .i64 n, .int .i64 kind, .slice (some ⟨gD, 0, none⟩) (m - k) (m - k), .slice (some ⟨gF, 0, none⟩) (m - k) (m - k)], .int .i64 0]) (by simp [results, Try.results42, go_sem, g0, g1, g2, g3]) rfl (HR.out _ _ ⟨Or.inl ⟨HE.out, _, _, _, rfl, rfl, HTE.out⟩, HE2.out⟩)

end Go.Proofs.Yteikihidblcljaa
