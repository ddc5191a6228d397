/- The walk of tenorlaw23's FxSums. -/
import Derived.Test.YthddkfkgnkbpnaaCeC
import Derived.Test.YthddkfkgnkbpnaaCfC
import Derived.Test.YthddkfkgnkbpnaaCaC
import Derived.Test.YthddkfkgnkbpnaaM15
import Derived.Test.YthddkfkgnkbpnaaNhC
import Derived.Test.YthddkfkgnkbpnaaCmC
import Derived.StillTailTactics
namespace Go.Proofs.Ythddkfkgnkbpnaa
open Go.RowKit
set_option linter.unusedSimpArgs false
set_option linter.unusedVariables false

theorem own_flws {w : World} {base n c : Nat} {a : Option Addr} {l : List Fw} (h : w.ownsRow base 54 3 (.slice a n c) n (flV l)) (hn : l.length = n) (hw : ∀ k, F64 (l.getD k fw0).x) (hr : ∀ k, (-9223372036854775808 ≤ (l.getD k fw0).d ∧ (l.getD k fw0).d ≤ 9223372036854775807) ∧ (-9223372036854775808 ≤ (l.getD k fw0).c ∧ (l.getD k fw0).c ≤ 9223372036854775807)) (hl : l.length ≤ 9223372036854775807) : Flws w a l := by
  rcases h.2 with ⟨e, e2⟩ | ⟨g, cap, cur, e, _⟩
  · have : l = [] := List.length_eq_zero_iff.1 (by omega)
    subst this
    exact Flws.nil _ _
  · have ea : a = some ⟨g, 0, none⟩ := by simp at e; exact e.1
    subst ea
    refine ⟨fun k hk => ⟨g, 0, rfl, ?_⟩, hw, hr, hl⟩
    obtain ⟨c1, c2, c3⟩ := flV_get l k hk
    have ha : ∀ i, (⟨g, 0, none⟩ : Addr).add i = ⟨g, 0 + i, none⟩ := fun i => by by_cases h0 : i = 0 <;> simp [Addr.add, h0]
    have k1 := h.cells rfl _ _ c1
    have k2 := h.cells rfl _ _ c2
    have k3 := h.cells rfl _ _ c3
    rw [ha] at k1 k2 k3
    exact ⟨k1, k2, k3⟩
theorem own_step {B : Nat} {w wd w2 : World} {o : Obj} {v v' : Value} {n : Nat} {xs ys : List Value} (hb : Below w.heap.size w wd) (hB : B ≤ wd.heap.size) (hwB : w.heap.size ≤ B) (ho : wd.ownsRow B 54 3 v n xs)
    (ho' : w2.ownsRow B 54 3 v' (n + 1) ys) (hg : (wd.alloc o).grownBy w2 v.ownBlock) : ∃ a c, v' = .slice a (n + 1) c ∧ w2.ownsRow B 54 3 (.slice a (n + 1) c) (n + 1) ys ∧ Below w.heap.size w w2 ∧ Below B wd w2 := by
  have hb1 : Below B wd w2 := ((Below.refl _ _).alloc hB o).grown hg (by simp; omega) fun k hk => (ho.lt k hk).1
  have hb2 : Below w.heap.size w w2 := hb.trans (hb1.mono hwB)
  rcases ho'.2 with ⟨_, e⟩ | ⟨g, cap, cur, rfl, _⟩
  · omega
  · exact ⟨_, _, rfl, ho', hb2, hb1⟩
theorem same_self3 (x : Nat) : same x x = true := by unfold same; simp
theorem NoU.same {w w' : World} {v : Value} (h : NoU w v) (hb : ∀ g, v.ownBlock = some g → w'.heap[g]? = w.heap[g]?) : NoU w' v := fun g hg o y hc => h g hg o y (by
  rw [← hc]
  exact (World.cell?_of_block (w := w) (w' := w') (a := ⟨g, o, none⟩) (hb g hg)).symm)
theorem dgs_grown {w w' : World} {v : Value} {a : Option Addr} {x : Nat} (h : Dgs w a x) (hn : NoU w v) (hg : w.grownBy w' v.ownBlock) : Dgs w' a x :=
  ⟨h.nil, fun b1 o v1 e i hi => ⟨(h.cell b1 o v1 e i hi).1, by
    have hc := (h.cell b1 o v1 e i hi).2
    have hne : some b1 ≠ v.ownBlock := fun e1 => hn b1 e1.symm _ _ hc
    rw [World.cell?_of_block (w := w) (w' := w') (a := ⟨b1, o + i, none⟩) (hg.block b1 (World.block_lt_of_cell? _ _ hc) hne), hc]⟩⟩

/-- The state of the loop: the flows in the currency so far, and their exact sum. -/
structure SmSt (m : List Fw) (tc : Int) (w4 wr : World) (k : Nat) (a : Option Addr) (cp : Nat) (st : Int) (s : Bool) (a3 : Option Addr) (d c3 : Nat) (e : Int) : Prop where
  own : wr.ownsRow (w4.heap.size + 1) 54 3 (.slice a (ownF (m.take k) tc).length cp) (ownF (m.take k) tc).length (flV (ownF (m.take k) tc))
  nou : NoU wr (.slice a (ownF (m.take k) tc).length cp)
  in3 : In3 wr w4.heap.size (zS (xsF (ownF (m.take k) tc))) (uS (xsF (ownF (m.take k) tc))) (dS (xsF (ownF (m.take k) tc))) st s a3 d c3 e
  bel : Below w4.heap.size w4 wr
theorem SmSt.skip {m : List Fw} {tc : Int} {w4 wr : World} {k : Nat} {a : Option Addr} {cp : Nat} {st : Int} {s : Bool} {a3 : Option Addr} {d c3 : Nat} {e : Int} (h : SmSt m tc w4 wr k a cp st s a3 d c3 e) (hk : k < m.length) (hc : (m.getD k fw0).c ≠ tc) :
    SmSt m tc w4 wr (k + 1) a cp st s a3 d c3 e ∧ (ownF (m.take (k + 1)) tc).length = (ownF (m.take k) tc).length := by
  have e1 := ownF_take m tc k hk
  rw [if_neg hc] at e1
  refine ⟨⟨?_, ?_, ?_, h.bel⟩, by rw [e1]⟩
  · rw [e1]; exact h.own
  · rw [e1]; exact h.nou
  · rw [e1]; exact h.in3
/-- Behind the append. -/
structure SmMid (m : List Fw) (tc : Int) (w4 w5 : World) (k : Nat) (a : Option Addr) (cp : Nat) (st : Int) (s : Bool) (a3 : Option Addr) (d c3 : Nat) (e : Int) : Prop where
  own : w5.ownsRow (w4.heap.size + 1) 54 3 (.slice a (ownF (m.take (k + 1)) tc).length cp) (ownF (m.take (k + 1)) tc).length (flV (ownF (m.take (k + 1)) tc))
  nou : NoU w5 (.slice a (ownF (m.take (k + 1)) tc).length cp)
  in3 : In3 w5 w4.heap.size (zS (xsF (ownF (m.take k) tc))) (uS (xsF (ownF (m.take k) tc))) (dS (xsF (ownF (m.take k) tc))) st s a3 d c3 e
  bel : Below w4.heap.size w4 w5
theorem SmSt.lt {m : List Fw} {tc : Int} {w4 wr : World} {k : Nat} {a : Option Addr} {cp : Nat} {st : Int} {s : Bool} {a3 : Option Addr} {d c3 : Nat} {e : Int} (h : SmSt m tc w4 wr k a cp st s a3 d c3 e) : w4.heap.size < wr.heap.size := h.in3.box.lt
theorem SmSt.nouA {m : List Fw} {tc : Int} {w4 wr : World} {k : Nat} {a : Option Addr} {cp : Nat} {st : Int} {s : Bool} {a3 : Option Addr} {d c3 : Nat} {e : Int} (h : SmSt m tc w4 wr k a cp st s a3 d c3 e) (o : Obj) : NoU (wr.alloc o) (.slice a (ownF (m.take k) tc).length cp) :=
  h.nou.same fun g hg => (World.grownBy_alloc wr o none).block g (h.own.lt g hg).2 (by simp)
theorem SmSt.mid {m : List Fw} {tc : Int} {w4 wr w5 : World} {k : Nat} {a : Option Addr} {cp : Nat} {st : Int} {s : Bool} {a3 : Option Addr} {d c3 : Nat} {e : Int} (h : SmSt m tc w4 wr k a cp st s a3 d c3 e) (hk : k < m.length) (hc : (m.getD k fw0).c = tc) (o : Obj) {v' : Value}
    (ho : w5.ownsRow (w4.heap.size + 1) 54 3 v' ((ownF (m.take k) tc).length + 1) (flV (ownF (m.take k) tc) ++ [.int .i64 (m.getD k fw0).d, .float .f64 (m.getD k fw0).x, .int .i64 (m.getD k fw0).c]))
    (hg : (wr.alloc o).grownBy w5 (Value.slice a (ownF (m.take k) tc).length cp).ownBlock) (hn : NoU w5 v') :
    ∃ a' cp', v' = .slice a' (ownF (m.take (k + 1)) tc).length cp' ∧ SmMid m tc w4 w5 k a' cp' st s a3 d c3 e := by
  have e1 := ownF_take m tc k hk
  rw [if_pos hc] at e1
  have hl : (ownF (m.take (k + 1)) tc).length = (ownF (m.take k) tc).length + 1 := by rw [e1]; simp
  have hlt := h.lt
  have hb0 : Below wr.heap.size wr (wr.alloc o) := (Below.refl _ _).alloc (Nat.le_refl _) o
  have hb1 : Below (w4.heap.size + 1) wr w5 := ((Below.refl _ _).alloc (by omega) o).grown hg (by simp; omega) fun g hg => (h.own.lt g hg).1
  have hf : flV (ownF (m.take k) tc) ++ [.int .i64 (m.getD k fw0).d, .float .f64 (m.getD k fw0).x, .int .i64 (m.getD k fw0).c] = flV (ownF (m.take (k + 1)) tc) := by rw [e1, flV_snoc]
  rw [hf, ← hl] at ho
  rcases ho.2 with ⟨_, e2⟩ | ⟨g, cap, cur, rfl, _⟩
  · omega
  · refine ⟨some ⟨g, 0, none⟩, cap, rfl, ho, hn, ⟨?_, h.in3.st, ⟨dgs_grown (h.in3.r3.dg.below hb0) (h.nouA o) hg, h.in3.r3.sm, h.in3.r3.lo, h.in3.r3.hi, h.in3.r3.val⟩⟩, h.bel.trans (hb1.mono (by omega))⟩
    exact (hb1.block w4.heap.size (by omega)).trans h.in3.box
theorem ownsRow_set4 {w : World} {base : Nat} {t : TypeId} {size n : Nat} {v : Value} {xs : List Value} (h : w.ownsRow base t size v n xs) {b : Nat} (hb : b < base) (v0 v1 v2 v3 : Value) :
    ((((w.setCell ⟨b, 0, none⟩ v0).setCell ⟨b, 1, none⟩ v1).setCell ⟨b, 2, none⟩ v2).setCell ⟨b, 3, none⟩ v3).ownsRow base t size v n xs :=
  ownsRow_setCell_below (ownsRow_setCell_below (ownsRow_setCell_below (ownsRow_setCell_below h (a := ⟨b, 0, none⟩) hb v0) (a := ⟨b, 1, none⟩) hb v1) (a := ⟨b, 2, none⟩) hb v2) (a := ⟨b, 3, none⟩) hb v3
/-- Behind the sum, stored. -/
theorem SmMid.next {m : List Fw} {tc : Int} {w4 w5 w6 : World} {k : Nat} {a : Option Addr} {cp : Nat} {st : Int} {s : Bool} {a3 : Option Addr} {d c3 : Nat} {e : Int} (h : SmMid m tc w4 w5 k a cp st s a3 d c3 e)
    (hb : Below w5.heap.size w5 w6) {s' : Bool} {a' : Option Addr} {d' : Nat} {e' : Int} (hr : R3 w6 s' a' d' e' (zS (xsF (ownF (m.take (k + 1)) tc))) (uS (xsF (ownF (m.take (k + 1)) tc))) (dS (xsF (ownF (m.take (k + 1)) tc)))) (c' : Nat) (st' : Int) (hst : st' = stOf (uS (xsF (ownF (m.take (k + 1)) tc))) (dS (xsF (ownF (m.take (k + 1)) tc)))) :
    SmSt m tc w4 ((((w6.setCell ⟨w4.heap.size, 0, none⟩ (.int .i64 st')).setCell ⟨w4.heap.size, 1, none⟩ (.bool s')).setCell ⟨w4.heap.size, 2, none⟩ (.slice a' (nd d') c')).setCell ⟨w4.heap.size, 3, none⟩ (.int .i64 e')) (k + 1) a cp st' s' a' d' c' e' := by
  subst hst
  have o6 := ownsRow_below h.own hb
  refine ⟨ownsRow_set4 o6 (by omega) _ _ _ _, ?_, In3.store (h.in3.box.below hb) hr c', ?_⟩
  · refine h.nou.same fun g hg => ?_
    have hl := h.own.lt g hg
    rw [Below.heap_setCell _ _ _ _ (by simp; omega), Below.heap_setCell _ _ _ _ (by simp; omega), Below.heap_setCell _ _ _ _ (by simp; omega), Below.heap_setCell _ _ _ _ (by simp; omega)]
    exact hb.block g hl.2
  · have hb2 := h.bel.trans (hb.mono h.bel.size)
    exact (((hb2.setCell (p := ⟨w4.heap.size, 0, none⟩) (Nat.le_refl _) _).setCell (p := ⟨w4.heap.size, 1, none⟩) (Nat.le_refl _) _).setCell (p := ⟨w4.heap.size, 2, none⟩) (Nat.le_refl _) _).setCell (p := ⟨w4.heap.size, 3, none⟩) (Nat.le_refl _) _

set_option maxHeartbeats 6400000 in
set_option maxRecDepth 100000 in
theorem fxSums_any (ad : Option Addr) (l : List Pr) (c : Nat) (am : Option Addr) (m : List Fw) (cm : Nat) (a' : Option Addr) (by_ : List Int) (c' : Nat) (tc : Int) (w : World) (hl : Prs w ad l) (hr : Room ad l.length c) (hm : Flws w am m) (hrm : Room am m.length cm) (hy : Ins w a' by_) (hr' : Room a' by_.length c') (_ht : (Lit.int .i64 tc).wf = true) :
    Calls Try.prog 5 #[.slice ad l.length c, .slice am m.length cm, .slice a' by_.length c', .int .i64 tc] w fun e w' => e = .returned (.bool true) ∧ Below w.heap.size w w' := by
  have hlen := hl.len
  have hlenm := hm.len
  have HNw := Hd.mk (fxNew_any ad l c w hl)
  have HWf := Hd.mk hl.wf
  have HGD := Hd.mk (newA_iff hl.wf)
  have HM := Hd.mk hm
  have HMx := Hd.mk fun w1 (hb : Below w.heap.size w w1) (h60 : m.length ≤ 1000) => mixedF_any am m cm a' by_ c' w1 (hm.below hb) (ins_belowW hy hb) hrm.nil h60
  unfold MxRetF at HMx
  unfold NewRet at HNw
  generalize hny : by_.length = ny at *
  generalize hn : l.length = n at *
  generalize hnm : m.length = nm at *
  have HN := Hd.mk hn
  have HNM := Hd.mk hnm
  clear hl hm hr hrm hy hr' hny hn hnm
  go_enter Try.func5, Try.ntmps5
  go_wp2_with fail
  refine HNw.out.mono ?_
  rintro e w1 ⟨⟨hz, tb, rfl, htb, ht⟩ | ⟨hz, rfl⟩, hb⟩
  rotate_left
  · have B1 := Hd.mk hb
    have e1 : ((newA l).1 != 0) = true := by rw [bne_iff_ne]; exact hz
    obtain ⟨E, hE⟩ : ∃ E, (newA l).1 = E := ⟨_, rfl⟩
    rw [hE] at e1 ⊢
    generalize (((newA l).2 : Nat) : Int) = j at *
    clear hz hb hE
    by_cases h1 : 28 < n
    · have d1 : decide ((n : Int) > 28) = true := by simp; omega
      clear h1
      go_wp2_with fail
      refine (awake23_any _).mono ?_; rintro e w4 ⟨rfl, hb⟩
      have B4 := Hd.mk (B1.out.trans (hb.mono B1.out.size))
      clear hb
      go_wp2_with fail
      go_ret
      exact ⟨rfl, B4.out⟩
    have d1 : decide ((n : Int) > 28) = false := by simp; omega
    by_cases h2 : 60 < nm
    · have d2 : decide ((nm : Int) > 60) = true := by simp; omega
      clear h1 h2
      go_wp2_with fail
      refine (awake23_any _).mono ?_; rintro e w4 ⟨rfl, hb⟩
      have B4 := Hd.mk (B1.out.trans (hb.mono B1.out.size))
      clear hb
      go_wp2_with fail
      go_ret
      exact ⟨rfl, B4.out⟩
    have d2 : decide ((nm : Int) > 60) = false := by simp; omega
    clear h1 h2
    go_wp2_with fail
    refine (awake23_any _).mono ?_; rintro e w4 ⟨rfl, hb⟩
    have B4 := Hd.mk (B1.out.trans (hb.mono B1.out.size))
    clear hb
    go_wp2_with fail
    go_ret
    exact ⟨rfl, B4.out⟩
  have hgd := HGD.out.1 hz
  have G := Hd.mk hgd.2
  have T1 := Hd.mk ht.tab
  have B1 := Hd.mk hb
  have h28 := hgd.1
  have d1 : decide ((n : Int) > 28) = false := by simp; omega
  clear hz hb ht htb hgd HGD HNw
  by_cases h2 : 60 < nm
  · have d2 : decide ((nm : Int) > 60) = true := by simp; omega
    clear h2
    go_wp2_with fail
    refine (awake23_any _).mono ?_; rintro e w4 ⟨rfl, hb⟩
    have B4 := Hd.mk (B1.out.trans (hb.mono B1.out.size))
    clear hb
    go_wp2_with fail
    go_ret
    exact ⟨rfl, B4.out⟩
  have d2 : decide ((nm : Int) > 60) = false := by simp; omega
  have h60 : nm ≤ 60 := by omega
  have HS1 := Hd.mk (fxSum_any l G.out tb am m cm tc w1 T1.out (HM.out.below B1.out))
  rw [HNM.out] at HS1
  have HOw : Hd ((sumT l (ownF m tc) tc).2 = 0 → (sumT l (ownF m tc) tc).1 = overA (zS (xsF (ownF m tc))) (uS (xsF (ownF m tc))) (dS (xsF (ownF m tc))) 1) := ⟨sumT_own l G.out m tc⟩
  have HPm := Hd.mk fun (m2 : List Fw) (h : m2.Perm m) => sumT_perm l tc h.symm
  unfold CrsRet at HS1
  clear h2
  go_wp2_with fail
  refine HS1.out.mono ?_; rintro e w2 ⟨rfl, hb⟩
  have B2 := Hd.mk (B1.out.trans (hb.mono B1.out.size))
  have T2 := Hd.mk (T1.out.below hb)
  clear hb HS1
  go_wp2_with fail
  refine (HMx.out _ B2.out (by omega)).mono ?_; rintro e w3 ⟨a2, c2, m2, rfl, hp, hm2, hb⟩
  have B3 := Hd.mk (B2.out.trans (hb.mono B2.out.size))
  have T3 := Hd.mk (T2.out.below hb)
  have HS2 := Hd.mk (fxSum_any l G.out tb a2 m2 c2 tc w3 T3.out hm2)
  have pm := HPm.out m2 hp
  rw [hp.length_eq, HNM.out] at HS2
  unfold CrsRet at HS2
  obtain ⟨x, E1, hx1⟩ : ∃ x E, sumT l m tc = (x, E) := ⟨_, _, rfl⟩
  obtain ⟨y, E2, hx2⟩ : ∃ y E, sumT l m2 tc = (y, E) := ⟨_, _, rfl⟩
  rw [hx1, hx2] at pm
  rw [hx2] at HS2
  dsimp only at pm HS2
  obtain ⟨pm1, rfl⟩ := pm
  rw [hx1]
  have x2 : ((x : Int) != (x : Int)) = false := by simp
  have hde : ∃ E : Bool, (E1 == 0) = E ∧ (E2 == 0) = E := by
    by_cases h : E1 = 0
    · exact ⟨true, by rw [beq_iff_eq]; exact h, by rw [beq_iff_eq]; exact pm1.1 h⟩
    · exact ⟨false, by rw [beq_eq_false_iff_ne]; exact h, by rw [beq_eq_false_iff_ne]; exact fun e => h (pm1.2 e)⟩
  clear hp hm2 hb HMx HPm pm1 hx1 hx2
  go_wp2_with fail
  refine HS2.out.mono ?_; rintro e w4 ⟨rfl, hb⟩
  have B4 := Hd.mk (B3.out.trans (hb.mono B3.out.size))
  have T4 := Hd.mk (T3.out.below hb)
  obtain ⟨W, hW, z1, z2⟩ := zero_box w4
  have HW := Hd.mk hW
  have T5 := Hd.mk (T4.out.below z2)
  have B5 := Hd.mk (B4.out.trans (z2.mono B4.out.size))
  have I0 : In3 W w4.heap.size (zS (xsF (ownF (m.take 0) tc))) (uS (xsF (ownF (m.take 0) tc))) (dS (xsF (ownF (m.take 0) tc))) 0 false none 0 0 0 := ⟨by rw [show nd 0 = 0 from rfl]; exact z1, rfl, R3.zero _ _ _ _ (fun _ _ => rfl)⟩
  have hO0 : W.ownsRow (w4.heap.size + 1) 54 3 (.slice none (ownF (m.take 0) tc).length 0) (ownF (m.take 0) tc).length (flV (ownF (m.take 0) tc)) := by simpa [flV, ownF] using World.ownsRow_nil W (w4.heap.size + 1) 54 3
  have ST0 : Hd (SmSt m tc w4 W 0 none 0 0 false none 0 0 0) := ⟨⟨hO0, fun g hg => by simp [Value.ownBlock] at hg, I0, z2⟩⟩
  clear hb HS2 hW z1 z2 I0 T3 T2 T1 B1 B2 B3 hO0 T5 B5
  obtain ⟨EB, he1, he2⟩ := hde
  obtain ⟨i0, hi, hz0, hz1, hz2⟩ := info_parts info_flow
  cases EB
  all_goals
    go_upto_region 6 with fail
    go_wp2_with fail
    refine (apiBits_any _ _).mono ?_; rintro e3 w6 ⟨rfl, rfl⟩
    go_wp2_with fail
    refine (apiBits_any _ _).mono ?_; rintro e3 w6 ⟨rfl, rfl⟩
    go_upto_region 10 with fail
    rw [HW.out]
    go_wp2_with fail
  all_goals
    go_loopw [16, 18] (fun sv iv wr => ∃ (k : Nat) (a : Option Addr) (cp : Nat) (st : Int) (s : Bool) (a3 : Option Addr) (d c3 : Nat) (e : Int), k ≤ nm ∧ iv = .int .i64 k ∧ sv = .slice a (ownF (m.take k) tc).length cp ∧ Hd (SmSt m tc w4 wr k a cp st s a3 d c3 e)) (fun _ iv _ => nm - (intOf iv).toNat)
    case atStart => exact ⟨0, none, 0, 0, false, none, 0, 0, 0, Nat.zero_le _, rfl, by simp [ownF], ST0⟩
    case round =>
      clear ST0
      obtain ⟨k, a, cp, st, s, a3, d, c3, e, hk, rfl, rfl, ST⟩ := hrel
      have BR := Hd.mk (B4.out.trans (ST.out.bel.mono B4.out.size))
      by_cases hlt : k < nm
      · have hlt' : (k : Int) < nm := by omega
        have k0 : (0 : Int) ≤ k := by omega
        obtain ⟨bb, oo, rfl, q1, q2, q3⟩ := (HM.out.below BR.out).cell k (by rw [HNM.out]; exact hlt)
        have hF := HM.out.wf k
        have e1 := ownF_take m tc k (by rw [HNM.out]; exact hlt)
        have hAB := own_accB HM.out.wf tc (k + 1) (by omega)
        have hlk : (ownF (m.take k) tc).length ≤ 60 := by
          have h1 := ownF_len (m.take k) tc
          rw [List.length_take] at h1
          omega
        have HSk := Hd.mk fun hc => ST.out.skip (by rw [HNM.out]; exact hlt) hc
        have HMi := Hd.mk fun (w5 : World) hc (o : Obj) (v' : Value) => ST.out.mid (w5 := w5) (v' := v') (by rw [HNM.out]; exact hlt) hc o
        generalize m.getD k fw0 = f at *
        obtain ⟨fd, fx, fc⟩ := f
        dsimp only at q1 q2 q3 hF e1 HSk HMi
        by_cases hc : fc = tc
        · have d3 : (fc == tc) = true := by rw [beq_iff_eq]; exact hc
          rw [if_pos hc] at e1
          have xs := xsF_snoc (ownF (m.take k) tc) ⟨fd, fx, fc⟩
          rw [← e1] at xs
          have HA : Hd (∀ w', R3 w' s a3 d e (zS (xsF (ownF (m.take k) tc))) (uS (xsF (ownF (m.take k) tc))) (dS (xsF (ownF (m.take k) tc))) → Calls Try.prog 20 #[.agg #[.int .i64 st, .bool s, .slice a3 (nd d) c3, .int .i64 e], .int .u64 fx] w' (R3Ret (zS (xsF (ownF (m.take (k + 1)) tc))) (uS (xsF (ownF (m.take (k + 1)) tc))) (dS (xsF (ownF (m.take (k + 1)) tc))) w')) := ⟨fun w' h => by
            rw [xs.1] at hAB
            rw [xs.1, xs.2.1, xs.2.2, ST.out.in3.st]
            exact r3add_any _ _ s a3 d c3 e _ _ hF w' h hAB⟩
          have OA : Hd ((wr.alloc (.cells #[.int .i64 fd, .float .f64 fx, .int .i64 fc] 54)).ownsRow (w4.heap.size + 1) 54 3 (.slice a (ownF (m.take k) tc).length cp) (ownF (m.take k) tc).length (flV (ownF (m.take k) tc))) := ⟨ST.out.own.alloc _⟩
          have NA := Hd.mk (ST.out.nouA (.cells #[.int .i64 fd, .float .f64 fx, .int .i64 fc] 54))
          have HM2 := Hd.mk fun w5 => HMi.out w5 hc (.cells #[.int .i64 fd, .float .f64 fx, .int .i64 fc] 54)
          have hsz := ST.out.lt
          have HLK := Hd.mk hlk
          clear hc hlt xs e1 hAB hF HSk HMi hlk
          generalize hN : (ownF (m.take k) tc).length = N at *
          go_wp2_with (at_builtin; refine wpList_append_clean rfl (.tmp 93) (.tmp 98) rfl (w4.heap.size + 1) (.slice a N cp) N (flV (ownF (m.take k) tc)) rfl OA.out NA.out ⟨wr.heap.size, 0, none⟩ fd fx fc rfl (by
            intro j u hj
            match j, hj with
            | 0, hj => simp at hj; subst hj; simp [Addr.add]
            | 1, hj => simp at hj; subst hj; simp [Addr.add]
            | 2, hj => simp at hj; subst hj; simp [Addr.add]) (by have := HLK.out; omega) (by simp; omega) ?_)
          intro v' w5 ho hg hn _
          obtain ⟨a2', cp2, rfl, hmid⟩ := HM2.out w5 _ ho hg hn
          have HMid := Hd.mk hmid
          clear ho hg hn hmid OA NA HM2
          obtain ⟨x0, x1, x2', x3⟩ := HMid.out.in3.box.cell
          have BM := Hd.mk (B4.out.trans (HMid.out.bel.mono B4.out.size))
          have q2' : w5.cell? ⟨bb, oo + k * 3 + 1, none⟩ = some (.float .f64 fx) := by
            have hcw : w4.cell? ⟨bb, oo + k * 3 + 1, none⟩ = some (.float .f64 fx) := by
              obtain ⟨b0, o0, h0, _, h2, _⟩ := (HM.out.below B4.out).cell k (by rw [HNM.out]; omega)
              obtain ⟨b0', o0', h0', _, h2', _⟩ := (HM.out.below BR.out).cell k (by rw [HNM.out]; omega)
              cases h0; cases h0'
              rw [h2'] at q2
              rw [h2]; exact q2
            exact cell_trP HMid.out.bel hcw
          have BXm := Hd.mk HMid.out.in3.box
          have HRm := Hd.mk HMid.out.in3.r3
          obtain ⟨ND, hND⟩ : ∃ ND, nd d = ND := ⟨_, rfl⟩
          rw [hND] at HA x2' BXm
          clear q1 q2 q3 hsz HLK hND
          go_upto_region 15 with fail
          have y0 : w5.drew.cell? ⟨w4.heap.size, 0, none⟩ = _ := x0
          have y1 : w5.drew.cell? ⟨w4.heap.size, 1, none⟩ = _ := x1
          have y2 : w5.drew.cell? ⟨w4.heap.size, 2, none⟩ = _ := x2'
          have y3 : w5.drew.cell? ⟨w4.heap.size, 3, none⟩ = _ := x3
          have y4 : w5.drew.cell? ⟨bb, oo + k * 3 + 1, none⟩ = some (.float .f64 fx) := q2'
          refine wp_region_still_tail 7 (by kernel_rfl) (by kernel_rfl) ?_
          simp only [List.take_succ_cons, List.take_zero, List.drop_succ_cons, List.drop_zero]
          change wpStill _ _ w5.drew _ _ _
          iterate 6 still_step
          still_call ((apiBits_any _ _).mono fun _ _ h => ⟨h.1, h.2.symm⟩)
          refine wpStill_nil ?_
          change wpList _ _ _ _ _ w5.drew
          go_wp2_with fail
          refine (HA.out _ (HRm.out.below (Below.refl _ _).drew)).mono ?_; rintro en w6 ⟨s5, a5, d5, c5, e5, rfl, hr, hb⟩
          have BX5 := Hd.mk ((show Box3 w5.drew _ _ _ _ _ _ _ from BXm.out).below hb)
          have ST2 := Hd.mk (HMid.out.next (Below.trans (Below.refl _ _).drew hb) hr c5 _ rfl)
          have fz := BX5.out.frozen
          obtain ⟨z0, z1, z2, z3⟩ := BX5.out.cell
          clear hb hr x0 x1 x2' x3 y0 y1 y2 y3 y4 q2' BX5 BXm HRm HA HMid
          go_wp2_with fail
          exact ⟨⟨k + 1, a2', cp2, _, s5, a5, d5, c5, e5, by omega, by go_num, rfl, ST2⟩, by simp [intOf]; omega⟩
        · have d3 : (fc == tc) = false := by rw [beq_eq_false_iff_ne]; exact hc
          obtain ⟨hs, hl⟩ := HSk.out hc
          have ST2 := Hd.mk hs
          have HL2 := Hd.mk hl
          clear hs hc hlt hl HSk HMi e1 hAB hF
          generalize hN : (ownF (m.take k) tc).length = N at *
          go_wp2_with fail
          exact ⟨⟨k + 1, a, cp, st, s, a3, d, c3, e, by omega, by go_num, by rw [HL2.out], ST2⟩, by simp [intOf]; omega⟩
      · obtain rfl : nm = k := by omega
        have hTk : m.take nm = m := List.take_of_length_le (by rw [HNM.out]; omega)
        have st0 := ST.out
        have hfl := own_flws st0.own rfl (ownF_wf HM.out.wf tc nm) (ownF_rg HM.out.rg tc nm) (by have := ownF_len (m.take nm) tc; rw [List.length_take] at this; omega)
        have hin := st0.in3
        rw [hTk] at hfl hin
        rw [hTk]
        have HS3 := Hd.mk (fxSum_any l G.out tb a (ownF m tc) cp tc wr (T4.out.below st0.bel) hfl)
        have HIN := Hd.mk hin
        have HO1 := HOw.out
        obtain ⟨zv, E3, hz⟩ : ∃ zv E, sumT l (ownF m tc) tc = (zv, E) := ⟨_, _, rfl⟩
        rw [hz] at HS3 HO1
        unfold CrsRet at HS3
        dsimp only at HS3 HO1
        have HO2 := Hd.mk HO1
        clear st0 hfl hin hTk hz HO1 hlt
        generalize (ownF m tc).length = N at *
        go_wp2_with fail
        refine HS3.out.mono ?_; rintro e7 w7 ⟨rfl, hb⟩
        have B7 := Hd.mk (BR.out.trans (hb.mono BR.out.size))
        have I7 := Hd.mk (HIN.out.below hb)
        obtain ⟨x0, x1, x2', x3⟩ := I7.out.box.cell
        clear hb HS3 HIN
        by_cases h0 : E3 = 0
        · have hv := HO2.out h0
          subst h0
          have HVl := Hd.mk (r3value_any (uS (xsF (ownF m tc))) (dS (xsF (ownF m tc))) s a3 d c3 e _ w7 I7.out.r3)
          rw [← I7.out.st, ← hv] at HVl
          have HF := Hd.mk (show F64 zv by rw [hv]; exact F64_overA _ _ _ _)
          unfold URet at HVl
          obtain ⟨ND, hND⟩ : ∃ ND, nd d = ND := ⟨_, rfl⟩
          rw [hND] at HVl x2'
          clear hv hND I7 HO2
          go_wp2_with fail
          refine HVl.out.mono ?_; rintro e8 w8 ⟨rfl, hb⟩
          have B8 := Hd.mk (B7.out.trans (hb.mono B7.out.size))
          clear hb HVl
          go_wp2_with fail
          refine (is_true _ _ HF.out HF.out (same_self3 _) _).mono ?_; rintro e9 w9 ⟨rfl, rfl⟩
          go_wp2_with fail
          refine (awake23_any _).mono ?_; rintro e9 w9 ⟨rfl, hb⟩
          have B9 := Hd.mk (B8.out.trans (hb.mono B8.out.size))
          clear hb
          go_wp2_with fail
          go_ret
          exact ⟨rfl, B9.out⟩
        · have d4 : (E3 != 0) = true := by rw [bne_iff_ne]; exact h0
          clear h0
          go_wp2_with fail
          refine (awake23_any _).mono ?_; rintro e9 w9 ⟨rfl, hb⟩
          have B9 := Hd.mk (B7.out.trans (hb.mono B7.out.size))
          clear hb
          go_wp2_with fail
          go_ret
          exact ⟨rfl, B9.out⟩

end Go.Proofs.Ythddkfkgnkbpnaa
