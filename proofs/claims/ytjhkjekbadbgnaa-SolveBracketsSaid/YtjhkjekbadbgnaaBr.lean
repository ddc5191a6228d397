/- The walk of SolveBrackets. -/
import Derived.Test.YtjhkjekbadbgnaaAw
import Derived.Test.YtjhkjekbadbgnaaHz
namespace Go.Proofs.Ytjhkjekbadbgnaa
open Go.RowKit

theorem F64_cnl {l : List Nat} (h : ∀ i, F64 (l.getD i 0)) : ∀ a ∈ l.map cn, F64 a := by
  intro a ha
  obtain ⟨b, hb, rfl⟩ := List.mem_map.1 ha
  obtain ⟨i, hi⟩ := List.getElem?_of_mem hb
  have := h i
  rw [List.getD, hi] at this
  exact F64_cn b this

theorem subself (x : Nat) (hx : F64 x) (w : World) : (FloatKind.f64.format.order (fres .sub x x w) 0 == some .eq) = fin x := by
  have h := cn_fsub x x w hx hx
  rw [fsub_self x hx] at h
  have hf := F64_fres .sub x x w
  generalize fres .sub x x w = r at *
  rw [feq r 0 hf F64_0, nn_0, rk_0]
  cases hfin : fin x
  · rw [hfin] at h
    have : nn r = true := by rw [← nn_cn, h]; exact nn_NaNc
    rw [this]; rfl
  · rw [hfin] at h
    have h0 : cn r = 0 := h
    have hn : nn r = false := by rw [← nn_cn, h0]; exact nn_0
    rw [cn_of r hn] at h0
    rw [h0, nn_0, rk_0]; rfl

theorem order_00 : (FloatKind.f64.format.order 0 0 == some .eq) = true := by decide +kernel
theorem order_00n : (FloatKind.f64.format.order 0 0 != some .eq) = false := by decide +kernel

theorem flt0 (x : Nat) (hx : F64 x) (hn : nn x = false) : (FloatKind.f64.format.order x 0 == some .lt) = decide (rk x < 0) := by
  rw [flt x 0 hx F64_0, hn, nn_0, rk_0]; rfl

set_option maxHeartbeats 1600000 in
theorem brackets_any (a : Option Addr) (l : List Nat) (c lo hi : Nat) (W : World) (hl : Fls W a l) (hlo : F64 lo) (hhi : F64 hi) :
    Calls Try.prog 7 #[.slice a l.length c, .float .f64 lo, .float .f64 hi] W fun e w' => e = .returned (.bool true) ∧ Below W.heap.size W w' := by
  have HL := Hd.mk hl
  clear hl
  by_cases h20 : 20 < l.length
  · have d1 : decide (20 < (l.length : Int)) = true := by simp; omega
    clear h20
    go_enter Try.func7, Try.ntmps7
    go_wp2_with fail
    refine (awake_any _).mono ?_; rintro e w2 ⟨rfl, hb⟩
    go_wp2_with fail
    go_ret
    exact ⟨rfl, hb⟩
  · have d1 : decide (20 < (l.length : Int)) = false := by simp; omega
    clear h20
    cases root_is (gP l) lo hi hlo hhi with
    | arg hok he =>
      have HT : Hd (root (gP l) lo hi = (0, 0, 1)) := ⟨he⟩
      clear he
      have o0 := order_00n
      cases hlt : (FloatKind.f64.format.order lo hi == some .lt)
      · clear hok
        go_enter Try.func7, Try.ntmps7
        go_wp2_with fail
        refine (poly_any a l c lo hi hlo hhi _ HL.out).mono ?_; rintro e w1 ⟨rfl, hb⟩
        rw [HT.out]
        have HL1 : Fls w1 a l := HL.out.below fun b o v h => cell_of_below hb (Nat.le_refl _) h
        have HLL := Hd.mk HL1
        clear HL1
        go_wp2_with fail
        refine (awake_any _).mono ?_; rintro e w2 ⟨rfl, hb2⟩
        have B : Below W.heap.size W w2 := by first | exact hb.trans (hb2.mono hb.size) | exact (below_drewN hb _).trans (hb2.mono hb.size)
        clear hb hb2
        go_wp2_with fail
        go_ret
        exact ⟨rfl, B⟩
      · have hnn : nn lo = false ∧ nn hi = false ∧ rk lo < rk hi := by
          rw [flt lo hi hlo hhi] at hlt; simpa [and_assoc] using hlt
        have s1 : ∀ w, (FloatKind.f64.format.order (fres .sub lo lo w) 0 == some .eq) = fin lo := subself lo hlo
        have s2 : ∀ w, (FloatKind.f64.format.order (fres .sub hi hi w) 0 == some .eq) = fin hi := subself hi hhi
        cases f1 : fin lo
        · rw [f1] at s1
          clear hok hnn s2
          go_enter Try.func7, Try.ntmps7
          go_wp2_with fail
          refine (poly_any a l c lo hi hlo hhi _ HL.out).mono ?_; rintro e w1 ⟨rfl, hb⟩
          rw [HT.out]
          have HL1 : Fls w1 a l := HL.out.below fun b o v h => cell_of_below hb (Nat.le_refl _) h
          have HLL := Hd.mk HL1
          clear HL1
          go_wp2_with fail
          refine (awake_any _).mono ?_; rintro e w2 ⟨rfl, hb2⟩
          have B : Below W.heap.size W w2 := by first | exact hb.trans (hb2.mono hb.size) | exact (below_drewN hb _).trans (hb2.mono hb.size)
          clear hb hb2
          go_wp2_with fail
          go_ret
          exact ⟨rfl, B⟩
        · have f2 : fin hi = false := by
            unfold okEnds at hok; rw [f1, decide_eq_true hnn.2.2] at hok; simpa using hok
          rw [f1] at s1
          rw [f2] at s2
          clear hok hnn f1 f2
          go_enter Try.func7, Try.ntmps7
          go_wp2_with fail
          refine (poly_any a l c lo hi hlo hhi _ HL.out).mono ?_; rintro e w1 ⟨rfl, hb⟩
          rw [HT.out]
          have HL1 : Fls w1 a l := HL.out.below fun b o v h => cell_of_below hb (Nat.le_refl _) h
          have HLL := Hd.mk HL1
          clear HL1
          go_wp2_with fail
          refine (awake_any _).mono ?_; rintro e w2 ⟨rfl, hb2⟩
          have B : Below W.heap.size W w2 := by first | exact hb.trans (hb2.mono hb.size) | exact (below_drewN hb _).trans (hb2.mono hb.size)
          clear hb hb2
          go_wp2_with fail
          go_ret
          exact ⟨rfl, B⟩
    | value hok hn hx he =>
      obtain ⟨n, HT⟩ : ∃ n, Hd (root (gP l) lo hi = (0, n, 91)) ∧ n ≤ 66 := ⟨_, ⟨Prod.ext hx (Prod.ext rfl he)⟩, hn⟩
      obtain ⟨HT, h66⟩ := HT
      have d2 : decide (66 < (n : Int)) = false := by simp; omega
      have o0 := order_00n
      clear hok hn hx he h66
      go_enter Try.func7, Try.ntmps7
      go_wp2_with fail
      refine (poly_any a l c lo hi hlo hhi _ HL.out).mono ?_; rintro e w1 ⟨rfl, hb⟩
      rw [HT.out]
      have HL1 : Fls w1 a l := HL.out.below fun b o v h => cell_of_below hb (Nat.le_refl _) h
      have HLL := Hd.mk HL1
      clear HL1
      go_wp2_with fail
      refine (horner_any a l c lo hlo _ (by exact HLL.out.below fun b o v h => h)).mono ?_
      rintro e w' ⟨r, nr, rfl, hr, hcr, rfl⟩
      have Cr := Hd.mk hcr
      clear hcr
      go_wp2_with fail
      refine (horner_any a l c hi hhi _ (by exact HLL.out.below fun b o v h => h)).mono ?_
      rintro e w' ⟨q, nq, rfl, hq, hcq, rfl⟩
      have Cq := Hd.mk hcq
      clear hcq
      go_wp2_with fail
      refine (awake_any _).mono ?_; rintro e w2 ⟨rfl, hb2⟩
      have B : Below W.heap.size W w2 := by first | exact hb.trans (hb2.mono hb.size) | exact (below_drewN hb _).trans (hb2.mono hb.size)
      clear hb hb2
      go_wp2_with fail
      go_ret
      exact ⟨rfl, B⟩
    | bracket hok he ha hb az bz hs =>
      have HT : Hd (root (gP l) lo hi = (0, 2, 120)) := ⟨he⟩
      have o0 := order_00n
      have H := Hd.mk (And.intro (And.intro ha hb) (And.intro (And.intro az bz) hs))
      clear hok he ha hb az bz hs
      go_enter Try.func7, Try.ntmps7
      go_wp2_with fail
      refine (poly_any a l c lo hi hlo hhi _ HL.out).mono ?_; rintro e w1 ⟨rfl, hb⟩
      rw [HT.out]
      have HL1 : Fls w1 a l := HL.out.below fun b o v h => cell_of_below hb (Nat.le_refl _) h
      have HLL := Hd.mk HL1
      clear HL1
      go_wp2_with fail
      refine (horner_any a l c lo hlo _ (by exact HLL.out.below fun b o v h => h)).mono ?_
      rintro e w' ⟨r, nr, rfl, hr, hcr, rfl⟩
      have Cr := Hd.mk hcr
      clear hcr
      go_wp2_with fail
      refine (horner_any a l c hi hhi _ (by exact HLL.out.below fun b o v h => h)).mono ?_
      rintro e w' ⟨q, nq, rfl, hq, hcq, rfl⟩
      have Cq := Hd.mk hcq
      clear hcq
      obtain ⟨⟨ha, hb'⟩, ⟨az, bz⟩, hs⟩ := H.out
      have n1 : nn r = false := (gnn (v := gP l lo) Cr.out).symm.trans ha
      have n2 : nn q = false := (gnn (v := gP l hi) Cq.out).symm.trans hb'
      rw [grk (v := gP l lo) Cr.out n1] at az hs
      rw [grk (v := gP l hi) Cq.out n2] at bz hs
      have t1 := fgt0 r hr n1
      have t2 := fgt0 q hq n2
      have t3 := flt0 r hr n1
      have t4 := flt0 q hq n2
      clear ha hb' n1 n2
      by_cases hp : 0 < rk r
      · rw [decide_eq_true hp] at t1 hs
        rw [← hs] at t2
        clear t3 t4 az bz hs hp
        go_wp2_with fail
        refine (awake_any _).mono ?_; rintro e w2 ⟨rfl, hb2⟩
        have B : Below W.heap.size W w2 := by first | exact hb.trans (hb2.mono hb.size) | exact (below_drewN hb _).trans (hb2.mono hb.size)
        clear hb hb2
        go_wp2_with fail
        go_ret
        exact ⟨rfl, B⟩
      · rw [decide_eq_false hp] at t1 hs
        rw [← hs] at t2
        rw [decide_eq_true (by omega)] at t3
        rw [decide_eq_true (by have := of_decide_eq_false hs.symm; omega)] at t4
        clear az bz hs hp
        go_wp2_with fail
        refine (awake_any _).mono ?_; rintro e w2 ⟨rfl, hb2⟩
        have B : Below W.heap.size W w2 := by first | exact hb.trans (hb2.mono hb.size) | exact (below_drewN hb _).trans (hb2.mono hb.size)
        clear hb hb2
        go_wp2_with fail
        go_ret
        exact ⟨rfl, B⟩
    | zero hok hn he hf nan l1 l2 hv hz =>
      obtain ⟨x, n, hT, h66⟩ : ∃ x n, root (gP l) lo hi = (x, n, 0) ∧ n ≤ 66 := ⟨_, _, Prod.ext rfl (Prod.ext rfl he), hn⟩
      rw [hT] at hf nan l1 l2 hv hz
      dsimp only at hf nan l1 l2 hv hz
      have HT := Hd.mk hT
      have d2 : decide (66 < (n : Int)) = false := by simp; omega
      obtain ⟨e1, e2, e3⟩ := okEnds_of hok
      have i1 := fle lo x hlo hf (nn_fin lo e1) nan
      have i2 := fle x hi hf hhi nan (nn_fin hi e2)
      rw [decide_eq_true l1] at i1
      rw [decide_eq_true l2] at i2
      have H := Hd.mk (And.intro hv hz)
      clear hok hn he nan l1 l2 hv hz hT h66 e1 e2 e3
      go_enter Try.func7, Try.ntmps7
      go_wp2_with fail
      refine (poly_any a l c lo hi hlo hhi _ HL.out).mono ?_; rintro e w1 ⟨rfl, hb⟩
      rw [HT.out]
      have HL1 : Fls w1 a l := HL.out.below fun b o v h => cell_of_below hb (Nat.le_refl _) h
      have HLL := Hd.mk HL1
      clear HL1
      go_wp2_with fail
      refine (horner_any a l c lo hlo _ (by exact HLL.out.below fun b o v h => h)).mono ?_
      rintro e w' ⟨r, nr, rfl, hr, hcr, rfl⟩
      have Cr := Hd.mk hcr
      clear hcr
      go_wp2_with fail
      refine (horner_any a l c hi hhi _ (by exact HLL.out.below fun b o v h => h)).mono ?_
      rintro e w' ⟨q, nq, rfl, hq, hcq, rfl⟩
      have Cq := Hd.mk hcq
      clear hcq
      go_wp2_with fail
      refine (horner_any a l c x hf _ (by exact HLL.out.below fun b o v h => h)).mono ?_
      rintro e w' ⟨v, nv, rfl, hv, hcv, rfl⟩
      have Cv := Hd.mk hcv
      clear hcv
      obtain ⟨hv', hz⟩ := H.out
      have n1 : nn v = false := (gnn (v := gP l x) Cv.out).symm.trans hv'
      rw [grk (v := gP l x) Cv.out n1] at hz
      have t1 := feq0 v hv n1
      rw [decide_eq_true hz] at t1
      clear hv' n1 hz
      go_wp2_with fail
      refine (awake_any _).mono ?_; rintro e w2 ⟨rfl, hb2⟩
      have B : Below W.heap.size W w2 := by first | exact hb.trans (hb2.mono hb.size) | exact (below_drewN hb _).trans (hb2.mono hb.size)
      clear hb hb2
      go_wp2_with fail
      go_ret
      exact ⟨rfl, B⟩
    | found hok hn he hf nan l1 l2 sa hp u hq up le wh hs =>
      obtain ⟨x, n, hT, h66⟩ : ∃ x n, root (gP l) lo hi = (x, n, 0) ∧ n ≤ 66 := ⟨_, _, Prod.ext rfl (Prod.ext rfl he), hn⟩
      rw [hT] at hf nan l1 l2 hp up
      dsimp only at hf nan l1 l2 hp up
      have HT := Hd.mk hT
      have d2 : decide (66 < (n : Int)) = false := by simp; omega
      obtain ⟨e1, e2, e3⟩ := okEnds_of hok
      have i1 := fle lo x hlo hf (nn_fin lo e1) nan
      have i2 := fle x hi hf hhi nan (nn_fin hi e2)
      rw [decide_eq_true l1] at i1
      rw [decide_eq_true l2] at i2
      have bx := rk_bd x nan
      have bh := rk_bd hi (nn_fin hi e2)
      obtain ⟨z, hz⟩ : ∃ z, stp x 1 = z := ⟨_, rfl⟩
      have hz' : z = atk (rk x + 1) := by rw [← hz, ← stp_3 nan (by omega)]
      have fz : F64 z := by rw [hz']; exact atk_F64 _ (by omega) (by omega)
      have rz : rk z = rk x + 1 := by rw [hz']; exact rk_atk _ (by omega) (by omega)
      have nz : nn z = false := by rw [hz']; exact nn_atk _ (by omega) (by omega)
      have i3 := fle z hi fz hhi nz (nn_fin hi e2)
      rw [decide_eq_true (by omega)] at i3
      have gz : nn (gP l z) = nn (gP l u) ∧ rk (gP l z) = rk (gP l u) := by
        have h1 : z = atk (rk u) := by rw [hz', up]
        rcases wh with rfl | wh
        · rcases atk_rk u hhi with h2 | ⟨h2, h3⟩
          · rw [h1, ← h2]; exact ⟨rfl, rfl⟩
          · have h4 : z = 0 := by rw [h1, h3]; exact (atk_pos (Int.le_refl 0)).symm
            rw [h4]
            show nn (horn _ (cn 0)) = nn (horn _ (cn u)) ∧ rk (horn _ (cn 0)) = rk (horn _ (cn u))
            rw [cn_of 0 nn_0, cn_of u (nn_fin u e2)]
            exact horn_nz 0 u F64_0 hhi mg_0 h2 _ (F64_cnl HL.out.wf)
        · rw [h1, ← wh]; exact ⟨rfl, rfl⟩
      have HZ := Hd.mk hz
      have H := Hd.mk (And.intro hp (And.intro hq gz))
      clear hok hn he nan l1 l2 hp hq up le wh hs hT h66 e1 e2 e3 bx bh hz hz' rz nz gz
      go_enter Try.func7, Try.ntmps7
      go_wp2_with fail
      refine (poly_any a l c lo hi hlo hhi _ HL.out).mono ?_; rintro e w1 ⟨rfl, hb⟩
      rw [HT.out]
      have HL1 : Fls w1 a l := HL.out.below fun b o v h => cell_of_below hb (Nat.le_refl _) h
      have HLL := Hd.mk HL1
      clear HL1
      go_wp2_with fail
      refine (horner_any a l c lo hlo _ (by exact HLL.out.below fun b o v h => h)).mono ?_
      rintro e w' ⟨r, nr, rfl, hr, hcr, rfl⟩
      have Cr := Hd.mk hcr
      clear hcr
      go_wp2_with fail
      refine (horner_any a l c hi hhi _ (by exact HLL.out.below fun b o v h => h)).mono ?_
      rintro e w' ⟨q, nq, rfl, hq, hcq, rfl⟩
      have Cq := Hd.mk hcq
      clear hcq
      go_wp2_with fail
      refine (horner_any a l c x hf _ (by exact HLL.out.below fun b o v h => h)).mono ?_
      rintro e w' ⟨v, nv, rfl, hv, hcv, rfl⟩
      have Cv := Hd.mk hcv
      clear hcv
      have n1 : nn v = false := (gnn (v := gP l x) Cv.out).symm.trans H.out.1.nn
      have t0 := feq0 v hv n1
      have t1 := fgt0 v hv n1
      have t2 := flt0 v hv n1
      have k1 := H.out.1.nz
      have k2 := H.out.1.sg
      rw [grk (v := gP l x) Cv.out n1] at k1 k2
      rw [decide_eq_false k1] at t0
      clear n1
      have K := Hd.mk (And.intro k1 k2)
      clear k1 k2 t1 t2
      go_wp2_with fail
      refine (up_any x hf _).mono ?_; rintro e w' ⟨rfl, rfl⟩
      rw [HZ.out]
      go_wp2_with fail
      refine (horner_any a l c z fz _ (by exact HLL.out.below fun b o v h => h)).mono ?_
      rintro e w' ⟨y, ny, rfl, hy, hcy, rfl⟩
      have Cy := Hd.mk hcy
      clear hcy
      have n1 : nn v = false := (gnn (v := gP l x) Cv.out).symm.trans H.out.1.nn
      have n2 : nn y = false := (gnn (v := gP l z) Cy.out).symm.trans (H.out.2.2.1.trans H.out.2.1.nn)
      have t1 := fgt0 v hv n1
      have t2 := flt0 v hv n1
      have t3 := fgt0 y hy n2
      have t4 := flt0 y hy n2
      obtain ⟨k1, k2⟩ := K.out
      have k3 := H.out.2.1.nz
      have k4 := H.out.2.1.sg
      rw [← H.out.2.2.2, grk (v := gP l z) Cy.out n2] at k3 k4
      cases sa
      · have a1 := of_decide_eq_false k2
        have a2 : 0 < rk y := by simpa using k4
        rw [decide_eq_false a1] at t1
        rw [decide_eq_true (by omega)] at t2
        rw [decide_eq_true a2] at t3
        clear n1 n2 k1 k2 k3 k4 a1 a2 t4
        go_wp2_with fail
        refine (awake_any _).mono ?_; rintro e w2 ⟨rfl, hb2⟩
        have B : Below W.heap.size W w2 := by first | exact hb.trans (hb2.mono hb.size) | exact (below_drewN hb _).trans (hb2.mono hb.size)
        clear hb hb2
        go_wp2_with fail
        go_ret
        exact ⟨rfl, B⟩
      · have a1 := of_decide_eq_true k2
        have a2 : ¬ 0 < rk y := by simpa using k4
        rw [decide_eq_true a1] at t1
        rw [decide_eq_true (by omega)] at t4
        clear n1 n2 k1 k2 k3 k4 a1 a2 t2 t3
        go_wp2_with fail
        refine (awake_any _).mono ?_; rintro e w2 ⟨rfl, hb2⟩
        have B : Below W.heap.size W w2 := by first | exact hb.trans (hb2.mono hb.size) | exact (below_drewN hb _).trans (hb2.mono hb.size)
        clear hb hb2
        go_wp2_with fail
        go_ret
        exact ⟨rfl, B⟩

end Go.Proofs.Ytjhkjekbadbgnaa
