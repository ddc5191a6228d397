/- AccWhole's walk. -/
import Derived.Test.YtpegicgahbambaaKzC
namespace Go.Proofs.Ytpegicgahbambaa
open Go.RowKit
set_option linter.unusedSimpArgs false
set_option linter.unusedVariables false

theorem own_fls {w : World} {base n : Nat} {v : Value} {m : List Nat} (h : w.ownsRow base 22 1 v n (m.map (Value.float .f64))) (hw : ∀ i, F64 (m.getD i 0)) :
    ∃ a c, v = .slice a m.length c ∧ Fls w a m ∧ m.length ≤ c ∧ c ≤ 9223372036854775807 := by
  by_cases h0 : v = .slice none 0 0
  · subst h0
    obtain ⟨hl, h | ⟨g, cap, cur, e, _⟩⟩ := h
    · obtain ⟨_, rfl⟩ := h
      have : m = [] := List.length_eq_zero_iff.1 (by rw [List.length_map] at hl; omega)
      subst this
      exact ⟨none, 0, rfl, fls_nil w, Nat.le_refl _, by decide⟩
    · cases e
  · obtain ⟨g, cap, rfl, _, hr⟩ := FRow.of_own h hw h0
    exact ⟨_, cap, rfl, hr.fls, hr.le, hr.max⟩
theorem FI_wf (l : List Int) (h : ∀ n ∈ l, n.natAbs < 17592186044416) (i : Nat) : F64 ((l.map FI).getD i 0) := by
  rw [List.getD_eq_getElem?_getD, List.getElem?_map]
  by_cases hi : i < l.length
  · rw [List.getElem?_eq_getElem hi]
    exact (Whl.of_int l[i] (by have := h l[i] (List.getElem_mem hi); omega)).wf
  · rw [List.getElem?_eq_none (by omega)]
    exact F64_0
theorem aI_bd : ∀ l : List Int, (∀ n ∈ l, n.natAbs < 17592186044416) → aI l ≤ l.length * 17592186044416
  | [], _ => Nat.le_refl _
  | n :: l, h => by
    have h1 := aI_bd l fun m hm => h m (List.mem_cons_of_mem _ hm)
    have h2 := h n List.mem_cons_self
    rw [List.length_cons]
    show n.natAbs + aI l ≤ _
    omega


set_option maxHeartbeats 3200000 in
set_option maxRecDepth 100000 in
theorem accWhole_any (a : Option Addr) (l : List Int) (c : Nat) (w : World) (hl : Ins w a l) (hr : Room a l.length c) :
    Calls Try.prog 8 #[.slice a l.length c] w fun e w' => e = .returned (.bool true) ∧ Below w.heap.size w w' := by
  have HL := Hd.mk hl
  have hlen := hl.len
  obtain ⟨i0, hi, hz0, hz1, hz2⟩ := info_parts w_info8
  obtain ⟨n, hn⟩ : ∃ n, l.length = n := ⟨_, rfl⟩
  rw [hn] at hlen ⊢
  have HN := Hd.mk hn
  clear hl hr hn
  go_enter Try.func8, Try.ntmps8
  go_wp2_with fail
  go_loopw [3, 4, 5, 6] (fun v sv zv iv wr => ∃ (k : Nat) (S Z : Int) (ns : List Int), k ≤ n ∧ k ≤ 200 ∧ iv = .int .i64 k ∧ sv = .int .i64 S ∧ zv = .int .i64 Z ∧ Hd (ns.length = k ∧ sI ns = S ∧ (aI ns : Int) = Z ∧ ∀ x ∈ ns, x.natAbs < 17592186044416) ∧ Hd (wr.ownsRow w.heap.size 22 1 v k ((ns.map FI).map (Value.float .f64))) ∧ Hd (Below w.heap.size w wr)) (fun _ _ _ iv _ => 200 - (intOf iv).toNat)
  case atStart => exact ⟨0, 0, 0, [], Nat.zero_le _, Nat.zero_le _, rfl, rfl, rfl, ⟨rfl, rfl, rfl, fun x hx => by cases hx⟩, ⟨World.ownsRow_nil _ _ _ _⟩, ⟨Below.refl _ _⟩⟩
  case round =>
    obtain ⟨k, S, Z, ns, hk, hk2, rfl, rfl, rfl, HS, HO, HB⟩ := hrel
    by_cases hlt : k < n
    · have hd1 : decide (k < n) = true := by simp; omega
      by_cases hlt2 : k < 200
      · have hd2 : decide (k < 200) = true := by simp; omega
        obtain ⟨yb, yo, ha', hyc⟩ := HL.out.cell k (by rw [HN.out]; exact hlt)
        subst ha'
        have hyb : yb < w.heap.size := cell_lt hyc
        have hyc' : wr.cell? ⟨yb, yo + k, none⟩ = some (.int .i64 (l.getD k 0)) := by
          have := HB.out.block yb hyb
          unfold World.cell? at *
          rw [this]; exact hyc
        have HW := Hd.mk (HL.out.wf k)
        generalize l.getD k 0 = x at *
        obtain ⟨N, hN⟩ : ∃ N, x.tmod 17592186044416 = N := ⟨_, rfl⟩
        have hN1 : N < 17592186044416 := by rw [← hN]; exact Int.tmod_lt_of_pos x (by decide)
        have hN2 : -17592186044416 < N := by
          have h3 := Int.tmod_lt_of_pos (-x) (show (0 : Int) < 17592186044416 by decide)
          rw [Int.neg_tmod] at h3
          omega
        have hb := sI_le ns
        have hb2 := aI_bd ns HS.out.2.2.2
        rw [HS.out.1] at hb2
        rw [HS.out.2.1] at hb
        have hS1 : -3600000000000000 ≤ S := by omega
        have hS2 : S ≤ 3600000000000000 := by omega
        have hZ1 : 0 ≤ Z := by have := HS.out.2.2.1; omega
        have hZ2 : Z ≤ 3600000000000000 := by have := HS.out.2.2.1; omega
        obtain ⟨A, hA⟩ : ∃ A, max N (-N) = A := ⟨_, rfl⟩
        have hA1 : A = N.natAbs := by rw [← hA]; omega
        have hA2 : 0 ≤ A := by omega
        have hA3 : A < 17592186044416 := by omega
        have j1 : (k : Int) < n := by omega
        have j2 : (k : Int) < 200 := by omega
        have HA := Hd.mk hA1
        clear hb hb2 hyb hyc hlt hlt2 hA1
        have HI : Hd (Fls (wr.alloc (.cells #[.float .f64 (floatOfInt .f64 N)] 22)) none []) := ⟨fls_nil _⟩
        have HM : Hd (k + 1 ≤ maxLen ∧ (k + 1) * 8 ≤ 140737488355328) := ⟨by unfold maxLen; omega, by omega⟩
        clear HI
        go_upto_region 10 with fail
        go_wp2_with (at_builtin; refine wpList_append_own _ rfl (.tmp 32) (.tmp 35) 36 rfl w.heap.size 22 i0 (.float .f64 0) 1 8 Try.underlying36 hi hz0 hz1 hz2 rfl (by decide) _ _ _ rfl (HO.out.alloc _) ⟨wr.heap.size, 0, none⟩ 1 1 [.float .f64 (floatOfInt .f64 N)] rfl rfl (by intro j u hj; match j, hj with | 0, hj => simp at hj; subst hj; simp [Addr.add]) (by intro u hu; simp at hu; subst hu; rfl) HM.out.1 HM.out.2 (by have := HB.out.size; simp; omega) ?_)
        intro v' w1 ho hg _
        have HO1 := Hd.mk ho
        have HB1 := Hd.mk (below_grown (HB.out.alloc HB.out.size _) hg (fun k' hk' => by
          have := HO.out.lt k' hk'
          exact this.1) (Nat.le_trans HB.out.size (World.alloc_size_le _ _)))
        have HS1 : Hd ((ns ++ [N]).length = k + 1 ∧ sI (ns ++ [N]) = S + N ∧ (aI (ns ++ [N]) : Int) = Z + A ∧ ∀ x ∈ ns ++ [N], x.natAbs < 17592186044416) := ⟨by
          obtain ⟨h1, h2, h3, h4⟩ := HS.out
          have h5 := sI_snoc ns N
          refine ⟨by rw [List.length_append, h1]; rfl, by rw [h5.1, h2], by rw [h5.2]; have := HA.out; omega, fun y hy => ?_⟩
          rcases List.mem_append.1 hy with h | h
          · exact h4 y h
          · simp at h; subst h; omega⟩
        clear ho hg HO HB HS HA
        go_wp2_with fail
        exact ⟨⟨k + 1, _, _, _, by omega, by omega, by go_num, rfl, rfl, HS1, ⟨by rw [List.map_append, List.map_append, List.map_map]; exact HO1.out⟩, HB1⟩, by simp [intOf]; omega⟩
      · have hd2 : decide (k < 200) = false := by simp; omega
        have j1 : (k : Int) < n := by omega
        have j2 : (200 : Int) ≤ k := by omega
        obtain ⟨a1, c1, rfl, HF', hc1, hc2⟩ := own_fls HO.out (FI_wf ns HS.out.2.2.2)
        obtain ⟨xs, hxs⟩ : ∃ xs, ns.map FI = xs := ⟨_, rfl⟩
        rw [hxs] at HF' hc1
        have HX : Hd (xs = ns.map FI ∧ xs.length = k) := ⟨hxs.symm, by rw [← hxs, List.length_map, HS.out.1]⟩
        have HF := Hd.mk HF'
        have HC := Hd.mk (And.intro hc1 hc2)
        rw [List.length_map, HS.out.1]
        clear HF' hc1 hc2 hxs HO hlt hlt2
        have HW := HX
        by_cases hZ : 9007199254740992 < Z
        · have hd3 : decide (9007199254740992 < Z) = true := by simp; omega
          clear HF HW
          go_wp2_with fail
          go_ret
          exact ⟨rfl, HB.out⟩
        · have hd3 : decide (9007199254740992 < Z) = false := by simp; omega
          have hai : aI ns ≤ 9007199254740992 := by have := HS.out.2.2.1; omega
          have hsi := sI_le ns
          rw [HS.out.2.1] at hsi
          have I1 := Hd.mk (Whl.of_int S (by omega))
          have W1 := leftF_whl ns hai
          have W2 := pairF_whl xs.length ns (by rw [HX.out.1, List.length_map]; omega) hai
          have W3 := kahF_whl ns hai
          have W4 := sum_whl ns hai
          rw [HS.out.2.1, ← HX.out.1] at W1 W2 W3 W4
          have o1 := W1.eq I1.out
          have o2 := W2.eq I1.out
          have o3 := W3.eq I1.out
          have o4 := W4.eq I1.out
          have C1 := Hd.mk fun w' h => left_any a1 xs c1 w' h
          have C2 := Hd.mk fun w' h => pair_any xs.length a1 xs c1 w' (Nat.le_refl _) HC.out.1 HC.out.2 h
          have C3 := Hd.mk fun w' h => kahan_any a1 xs c1 w' h
          have C4 := Hd.mk fun w' h => sum_any a1 xs c1 w' h (zS_accB HF.out (by rw [HX.out.2]; omega))
          have W1 := Hd.mk W1
          have W2 := Hd.mk W2
          have W3 := Hd.mk W3
          have W4 := Hd.mk W4
          rw [HX.out.2] at C1 C2 C3 C4 W2 o2
          clear hZ hai hsi
          generalize leftF xs = V1 at *
          generalize pairF (k + 1) xs = V2 at *
          generalize kahF xs = V3 at *
          generalize overA (zS xs) (uS xs) (dS xs) 1 = V4 at *
          go_wp2_with fail
          refine (C1.out _ HF.out).mono ?_; rintro e w' ⟨r, m1, rfl, hr, hc, rfl⟩
          obtain rfl := of_cn hc W1.out.nn
          have F1 : Hd (Fls (wr.drewN m1) a1 xs) := ⟨HF.out.heap rfl⟩
          have B1 := Hd.mk (below_drewN HB.out m1)
          clear hr hc HF HB
          generalize wr.drewN m1 = w1 at *
          go_wp2_with fail
          refine (C2.out _ F1.out).mono ?_; rintro e w' ⟨r, m2, rfl, hr, hc, rfl⟩
          obtain rfl := of_cn hc W2.out.nn
          have F2 : Hd (Fls (w1.drewN m2) a1 xs) := ⟨F1.out.heap rfl⟩
          have B2 := Hd.mk (below_drewN B1.out m2)
          clear hr hc F1 B1
          generalize w1.drewN m2 = w2 at *
          go_wp2_with fail
          refine (C3.out _ F2.out).mono ?_; rintro e w' ⟨r, m3, rfl, hr, hc, rfl⟩
          obtain rfl := of_cn hc W3.out.nn
          have F3 : Hd (Fls (w2.drewN m3) a1 xs) := ⟨F2.out.heap rfl⟩
          have B3 := Hd.mk (below_drewN B2.out m3)
          clear hr hc F2 B2
          generalize w2.drewN m3 = w3 at *
          go_wp2_with fail
          refine (C4.out _ F3.out).mono ?_; rintro e w' ⟨rfl, hb⟩
          have B4 := Hd.mk (B3.out.trans (hb.mono B3.out.size))
          clear hb F3 B3
          go_wp2_with fail
          refine (awake3_any _).mono ?_; rintro e w' ⟨rfl, hb⟩
          have B5 := Hd.mk (B4.out.trans (hb.mono B4.out.size))
          clear hb B4
          go_wp2_with fail
          go_ret
          exact ⟨rfl, B5.out⟩
    · have hd1 : decide (k < n) = false := by simp; omega
      have j1 : (n : Int) ≤ k := by omega
      obtain ⟨a1, c1, rfl, HF', hc1, hc2⟩ := own_fls HO.out (FI_wf ns HS.out.2.2.2)
      obtain ⟨xs, hxs⟩ : ∃ xs, ns.map FI = xs := ⟨_, rfl⟩
      rw [hxs] at HF' hc1
      have HX : Hd (xs = ns.map FI ∧ xs.length = k) := ⟨hxs.symm, by rw [← hxs, List.length_map, HS.out.1]⟩
      have HF := Hd.mk HF'
      have HC := Hd.mk (And.intro hc1 hc2)
      rw [List.length_map, HS.out.1]
      clear HF' hc1 hc2 hxs HO hlt
      have HW := HX
      by_cases hZ : 9007199254740992 < Z
      · have hd3 : decide (9007199254740992 < Z) = true := by simp; omega
        clear HF HW
        go_wp2_with fail
        go_ret
        exact ⟨rfl, HB.out⟩
      · have hd3 : decide (9007199254740992 < Z) = false := by simp; omega
        have hai : aI ns ≤ 9007199254740992 := by have := HS.out.2.2.1; omega
        have hsi := sI_le ns
        rw [HS.out.2.1] at hsi
        have I1 := Hd.mk (Whl.of_int S (by omega))
        have W1 := leftF_whl ns hai
        have W2 := pairF_whl xs.length ns (by rw [HX.out.1, List.length_map]; omega) hai
        have W3 := kahF_whl ns hai
        have W4 := sum_whl ns hai
        rw [HS.out.2.1, ← HX.out.1] at W1 W2 W3 W4
        have o1 := W1.eq I1.out
        have o2 := W2.eq I1.out
        have o3 := W3.eq I1.out
        have o4 := W4.eq I1.out
        have C1 := Hd.mk fun w' h => left_any a1 xs c1 w' h
        have C2 := Hd.mk fun w' h => pair_any xs.length a1 xs c1 w' (Nat.le_refl _) HC.out.1 HC.out.2 h
        have C3 := Hd.mk fun w' h => kahan_any a1 xs c1 w' h
        have C4 := Hd.mk fun w' h => sum_any a1 xs c1 w' h (zS_accB HF.out (by rw [HX.out.2]; omega))
        have W1 := Hd.mk W1
        have W2 := Hd.mk W2
        have W3 := Hd.mk W3
        have W4 := Hd.mk W4
        rw [HX.out.2] at C1 C2 C3 C4 W2 o2
        clear hZ hai hsi
        generalize leftF xs = V1 at *
        generalize pairF (k + 1) xs = V2 at *
        generalize kahF xs = V3 at *
        generalize overA (zS xs) (uS xs) (dS xs) 1 = V4 at *
        go_wp2_with fail
        refine (C1.out _ HF.out).mono ?_; rintro e w' ⟨r, m1, rfl, hr, hc, rfl⟩
        obtain rfl := of_cn hc W1.out.nn
        have F1 : Hd (Fls (wr.drewN m1) a1 xs) := ⟨HF.out.heap rfl⟩
        have B1 := Hd.mk (below_drewN HB.out m1)
        clear hr hc HF HB
        generalize wr.drewN m1 = w1 at *
        go_wp2_with fail
        refine (C2.out _ F1.out).mono ?_; rintro e w' ⟨r, m2, rfl, hr, hc, rfl⟩
        obtain rfl := of_cn hc W2.out.nn
        have F2 : Hd (Fls (w1.drewN m2) a1 xs) := ⟨F1.out.heap rfl⟩
        have B2 := Hd.mk (below_drewN B1.out m2)
        clear hr hc F1 B1
        generalize w1.drewN m2 = w2 at *
        go_wp2_with fail
        refine (C3.out _ F2.out).mono ?_; rintro e w' ⟨r, m3, rfl, hr, hc, rfl⟩
        obtain rfl := of_cn hc W3.out.nn
        have F3 : Hd (Fls (w2.drewN m3) a1 xs) := ⟨F2.out.heap rfl⟩
        have B3 := Hd.mk (below_drewN B2.out m3)
        clear hr hc F2 B2
        generalize w2.drewN m3 = w3 at *
        go_wp2_with fail
        refine (C4.out _ F3.out).mono ?_; rintro e w' ⟨rfl, hb⟩
        have B4 := Hd.mk (B3.out.trans (hb.mono B3.out.size))
        clear hb F3 B3
        go_wp2_with fail
        refine (awake3_any _).mono ?_; rintro e w' ⟨rfl, hb⟩
        have B5 := Hd.mk (B4.out.trans (hb.mono B4.out.size))
        clear hb B4
        go_wp2_with fail
        go_ret
        exact ⟨rfl, B5.out⟩

end Go.Proofs.Ytpegicgahbambaa
