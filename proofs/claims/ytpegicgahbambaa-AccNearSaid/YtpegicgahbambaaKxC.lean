/- The walk of tenorlaw3.shuffled. -/
import Derived.Test.YtpegicgahbambaaKwC
import Derived.StillTailTactics
import Derived.Laws.AppendOwnNone
namespace Go.Proofs.Ytpegicgahbambaa
open Go.RowKit
set_option linter.unusedSimpArgs false
set_option linter.unusedVariables false

theorem below_grown {B : Nat} {a w w' : World} {row : Option Nat} (h : Below B a w) (g : w.grownBy w' row) (hr : ∀ k, row = some k → B ≤ k) (hB : B ≤ w.heap.size) : Below B a w' :=
  ⟨g.os.trans h.os, g.tape.trans h.tape, g.output.trans h.output, Nat.le_trans h.size g.size, fun k hk => (g.block k (by omega) (fun e => by have := hr k e.symm; omega)).trans (h.block k hk)⟩

/-- A slice with a list's floats in another order, in memory of its own. -/
def ShRet (l : List Nat) (w : World) (e : Ending) (w' : World) : Prop :=
  ∃ a c m, e = .returned (.slice a l.length c) ∧ m.Perm l ∧ Fls w' a m ∧ Below w.heap.size w w'
theorem fls_nil (w : World) : Fls w none [] := { nil := fun _ => rfl, cell := fun b o v h => by simp at h, wf := fun i => ⟨by simp⟩, len := by simp }
theorem floats_one (l : List Nat) : ∀ u ∈ l.map (Value.float .f64), u.oneCell' = true := by
  intro u hu
  obtain ⟨x, _, rfl⟩ := List.mem_map.1 hu
  rfl
theorem Fls.news {w : World} {b o : Nat} {l : List Nat} (h : Fls w (some ⟨b, o, none⟩) l) (j : Nat) (u : Value) (hu : (l.map (Value.float .f64))[j]? = some u) : w.cell? ((⟨b, o, none⟩ : Addr).add j) = some u := by
  rw [List.getElem?_map] at hu
  by_cases e : j < l.length
  · rw [List.getElem?_eq_getElem e] at hu
    have h1 := (h.cell b o none rfl j e).2
    rw [show (⟨b, o, none⟩ : Addr).add j = ⟨b, o + j, none⟩ by by_cases h0 : j = 0 <;> simp [Addr.add, h0], h1]
    simp at hu
    rw [← hu]
    simp [List.getD_eq_getElem?_getD, List.getElem?_eq_getElem e]
  · rw [List.getElem?_eq_none (by omega)] at hu
    cases hu

@[go_sem] theorem run_store_float (P : Program) (w : World) (a : Addr) (m : Mode) (k : FloatKind) (x : Nat) : (store a (.float k x) m).run P w = stored P w a (.float k x) m := run_store P w a _ m rfl
theorem cell_lt {w : World} {b i : Nat} {v : Value} (h : w.cell? ⟨b, i, none⟩ = some v) : b < w.heap.size := by
  by_cases e : b < w.heap.size
  · exact e
  · unfold World.cell? at h
    rw [Array.getElem?_eq_none (Nat.le_of_not_lt e)] at h
    simp at h

set_option maxHeartbeats 1600000 in
set_option maxRecDepth 100000 in
theorem shuffled_nil (a : Option Addr) (c : Nat) (a' : Option Addr) (k c' : Nat) (w : World) (hz : a = none → c = 0) :
    Calls Try.prog 35 #[.slice a 0 c, .slice a' k c'] w (ShRet [] w) := by
  obtain ⟨i0, hi, hz0, hz1, hz2⟩ := info_parts w_info8
  cases a with
  | none =>
    have hc := hz rfl
    subst hc
    clear hz
    go_enter Try.func35, Try.ntmps35
    go_wp2_with (at_builtin; refine wpList_append_own_none rfl (.tmp 8) (.tmp 9) 36 rfl w.heap.size 22 i0 1 Try.underlying36 hi _ 0 [] rfl (World.ownsRow_nil _ _ _ _) rfl ?_)
    go_loopw [6] (fun iv wr => iv = .int .i64 0 ∧ wr = w) (fun iv _ => 0)
    case atStart => exact ⟨rfl, rfl⟩
    case round =>
      obtain ⟨rfl, rfl⟩ := hrel
      go_wp2_with fail
      go_ret
      exact ⟨none, 0, [], rfl, List.Perm.refl _, fls_nil _, Below.refl _ _⟩
  | some p =>
    clear hz
    obtain ⟨b, o, s⟩ := p
    go_enter Try.func35, Try.ntmps35
    go_wp2_with (at_builtin; refine wpList_append_own _ rfl (.tmp 8) (.tmp 9) 36 rfl w.heap.size 22 i0 (.float .f64 0) 1 8 Try.underlying36 hi hz0 hz1 hz2 rfl (by decide) _ 0 [] rfl (World.ownsRow_nil _ _ _ _) ⟨b, o, s⟩ 0 c [] rfl rfl (by simp) (by simp) (by decide) (by decide) (Nat.le_refl _) ?_)
    intro v' w1 ho hg he
    subst he
    have HB := Hd.mk (below_grown (Below.refl w.heap.size w) hg (fun k hk => by cases hk) (Nat.le_refl _))
    clear ho hg
    go_wp2_with fail
    go_loopw [6] (fun iv wr => iv = .int .i64 0 ∧ wr = w1) (fun iv _ => 0)
    case atStart => exact ⟨rfl, rfl⟩
    case round =>
      obtain ⟨rfl, rfl⟩ := hrel
      go_wp2_with fail
      go_ret
      exact ⟨none, 0, [], rfl, List.Perm.refl _, fls_nil _, HB.out⟩

set_option maxHeartbeats 1600000 in
set_option maxRecDepth 100000 in
theorem shuffled_any (a : Option Addr) (l : List Nat) (c : Nat) (a' : Option Addr) (by_ : List Int) (c' : Nat) (w : World) (hl : Fls w a l) (hy : Ins w a' by_) (hz : a = none → c = 0) (hn : l.length ≤ 1000) :
    Calls Try.prog 35 #[.slice a l.length c, .slice a' by_.length c'] w (ShRet l w) := by
  by_cases h0 : l.length = 0
  · obtain rfl : l = [] := List.length_eq_zero_iff.1 h0
    exact shuffled_nil a c a' _ c' w hz
  obtain ⟨i0, hi, hz0, hz1, hz2⟩ := info_parts w_info8
  obtain ⟨b, o, rfl, _⟩ := hl.at 0 (by omega)
  have HL := Hd.mk hl
  have HY := Hd.mk hy
  obtain ⟨n, hn'⟩ : ∃ n, l.length = n := ⟨_, rfl⟩
  obtain ⟨ny, hny⟩ : ∃ n, by_.length = n := ⟨_, rfl⟩
  have HX : Hd ((l.map (Value.float .f64)).length = n * 1 ∧ (∀ j u, (l.map (Value.float .f64))[j]? = some u → w.cell? ((⟨b, o, none⟩ : Addr).add j) = some u) ∧ (∀ u ∈ l.map (Value.float .f64), u.oneCell' = true)) := ⟨by rw [List.length_map, hn', Nat.mul_one], hl.news, floats_one l⟩
  have hlen := hy.len
  rw [hny] at hlen
  rw [hn'] at hn h0 ⊢
  rw [hny]
  have HN := Hd.mk hn'
  have HNY := Hd.mk hny
  clear hl hy hz hn' hny
  have HM : Hd (0 + n ≤ maxLen ∧ (0 + n) * 8 ≤ 140737488355328) := ⟨by unfold maxLen; omega, by omega⟩
  go_enter Try.func35, Try.ntmps35
  go_wp2_with (at_builtin; refine wpList_append_own _ rfl (.tmp 8) (.tmp 9) 36 rfl w.heap.size 22 i0 (.float .f64 0) 1 8 Try.underlying36 hi hz0 hz1 hz2 rfl (by decide) _ 0 [] rfl (World.ownsRow_nil _ _ _ _) ⟨b, o, none⟩ n c (l.map (Value.float .f64)) rfl HX.out.1 HX.out.2.1 HX.out.2.2 HM.out.1 HM.out.2 (Nat.le_refl _) ?_)
  intro v' w1 ho hg he
  try simp only [Nat.zero_add, List.nil_append] at ho
  obtain ⟨g, cap, rfl, hgb, hrow⟩ := FRow.of_own ho HL.out.wf (fun e => by simp [e] at he <;> omega)
  rw [HN.out]
  have HB := Hd.mk (below_grown (Below.refl w.heap.size w) hg (fun k hk => by cases hk) (Nat.le_refl _))
  have HR := Hd.mk hrow
  have HG := Hd.mk hgb
  have hcap := hrow.max
  have hcap' := hrow.le
  rw [HN.out] at hcap'
  clear ho hg he hrow hgb HX HM hi hz0 hz1 hz2
  go_wp2_with fail
  go_loopw [6] (fun iv wr => ∃ (i : Nat) (m : List Nat), i ≤ n ∧ iv = .int .i64 i ∧ Hd (m.Perm l) ∧ Hd (FRow wr g cap m) ∧ Hd (Below w.heap.size w wr)) (fun iv _ => n - (intOf iv).toNat)
  case atStart => exact ⟨0, l, Nat.zero_le _, rfl, ⟨List.Perm.refl _⟩, HR, HB⟩
  case round =>
    clear HR HB
    obtain ⟨i, m, hi, rfl, HP, HR, HB⟩ := hrel
    have HML := Hd.mk (HP.out.length_eq.trans HN.out)
    by_cases hlt : i < n
    · have hd1 : decide (i < n) = true := by simp; omega
      by_cases hlt2 : i < ny
      · have hd2 : decide (i < ny) = true := by simp; omega
        obtain ⟨yb, yo, ha', hyc⟩ := HY.out.cell i (by rw [HNY.out]; exact hlt2)
        subst ha'
        have hyb : yb < w.heap.size := cell_lt hyc
        have hyc' : wr.cell? ⟨yb, yo + i, none⟩ = some (.int .i64 (by_.getD i 0)) := by
          have := HB.out.block yb hyb
          unfold World.cell? at *
          rw [this]; exact hyc
        have HW := Hd.mk (HY.out.wf i)
        generalize by_.getD i 0 = x at *
        obtain ⟨K, hK, hKe, hx1, hx2⟩ := place_mod x n (by omega) (by omega)
        have hi1 := HR.out.cell i (by rw [HML.out]; exact hlt)
        have hi2 := HR.out.cell K (by rw [HML.out]; exact hK)
        have j1 : (i : Int) < n := by omega
        have j2 : (i : Int) < ny := by omega
        have j3 : (K : Int) < n := by omega
        have hn1 : (n : Int) ≤ 1000 := by omega
        have hn2 : (1 : Int) ≤ n := by omega
        have hn3 : ((n : Int) == 0) = false := by rw [beq_eq_false_iff_ne]; omega
        clear hlt hlt2 h0 hyb hyc
        have HS := Hd.mk fun x y hx hy => (HR.out.set i y (by rw [HML.out]; omega) hy).set K x (by rw [List.length_set, HML.out]; omega) hx
        have HS1 := Hd.mk (HS.out _ _ (HR.out.wf i) (HR.out.wf K))
        have HP1 := Hd.mk ((swap_perm m i K (by rw [HML.out]; omega) (by rw [HML.out]; omega)).trans HP.out)
        have HR2 := HR.out.set i (m.getD K 0) (by rw [HML.out]; omega) (HR.out.wf K)
        have hi3 := HR2.cell K (by rw [List.length_set, HML.out]; omega)
        rw [getD_set _ _ _ _ (by rw [HML.out]; omega), show (if K = i then m.getD K 0 else m.getD K 0) = m.getD K 0 by split <;> rfl] at hi3
        have fz3 := HR2.frozen K
        have hi1d : wr.drew.cell? ⟨g, i, none⟩ = _ := hi1
        have hi2d : wr.drew.cell? ⟨g, K, none⟩ = _ := hi2
        have fz1d : wr.frozen? ⟨g, i, none⟩ = false := HR.out.frozen i
        have fz2d : wr.frozen? ⟨g, K, none⟩ = false := HR.out.frozen K
        have fz1 : wr.drew.frozen? ⟨g, i, none⟩ = false := HR.out.frozen i
        have fz2 : wr.drew.frozen? ⟨g, K, none⟩ = false := HR.out.frozen K
        clear HS HR2
        generalize m.getD i 0 = x1 at *
        generalize m.getD K 0 = y1 at *
        go_upto_region 7 with fail
        go_region
        go_wp2_with fail
        exact ⟨⟨i + 1, _, by omega, by go_num, HP1, ⟨HS1.out.drew⟩, ⟨((HB.out.setCell (p := ⟨g, i, none⟩) HG.out _).setCell (p := ⟨g, K, none⟩) HG.out _).drew⟩⟩, by simp [intOf]; omega⟩
      · have hd2 : decide (i < ny) = false := by simp; omega
        have j1 : (i : Int) < n := by omega
        have j2 : (ny : Int) ≤ i := by omega
        clear hlt hlt2 h0
        go_wp2_with fail
        go_ret
        exact ⟨some ⟨g, 0, none⟩, cap, m, by rw [HN.out]; rfl, HP.out, HR.out.fls, HB.out⟩
    · have j1 : (n : Int) ≤ i := by omega
      clear hlt h0
      go_wp2_with fail
      go_ret
      exact ⟨some ⟨g, 0, none⟩, cap, m, by rw [HN.out]; rfl, HP.out, HR.out.fls, HB.out⟩

end Go.Proofs.Ytpegicgahbambaa
