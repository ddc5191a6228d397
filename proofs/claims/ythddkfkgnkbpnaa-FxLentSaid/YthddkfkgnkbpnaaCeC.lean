/- The walk of tenorlaw14's Mixed. -/
import Derived.Test.YthddkfkgnkbpnaaCdC
import Derived.StillTailTactics
import Derived.Laws.AppendOwnNone
namespace Go.Proofs.Ythddkfkgnkbpnaa
open Go.RowKit
set_option linter.unusedSimpArgs false
set_option linter.unusedVariables false

/-- A slice with a list's flows in another order, in memory of its own. -/
def MxRetF (l : List Fw) (w : World) (e : Ending) (w' : World) : Prop :=
  ∃ a c m, e = .returned (.slice a l.length c) ∧ m.Perm l ∧ Flws w' a m ∧ Below w.heap.size w w'
theorem info_partsF : ∃ i, Try.prog.info? 54 = some i ∧ i.zero = some (.agg #[.int .i64 0, .float .f64 0, .int .i64 0]) ∧ i.size = 3 ∧ i.bytes = 24 := by
  have := info_flow
  cases h : Try.prog.info? 54 with
  | none => simp [h] at this
  | some i => simp [h] at this; exact ⟨i, rfl, this.1, this.2.1, this.2.2⟩

theorem setF3_below {B : Nat} {w0 w : World} {g : Nat} (h : Below B w0 w) (hg : B ≤ g) (k : Nat) (p : Fw) : Below B w0 (setF3 w g k p) := by
  unfold setF3
  exact ((h.setCell (p := ⟨g, k * 3, none⟩) hg _).setCell (p := ⟨g, k * 3 + 1, none⟩) hg _).setCell (p := ⟨g, k * 3 + 2, none⟩) hg _

set_option maxHeartbeats 1600000 in
set_option maxRecDepth 100000 in
theorem mixedF_nil (a : Option Addr) (c : Nat) (a' : Option Addr) (k c' : Nat) (w : World) (hz : a = none → c = 0) :
    Calls Try.prog 19 #[.slice a 0 c, .slice a' k c'] w (MxRetF [] w) := by
  have HB : Hd (Below w.heap.size w (w.alloc (.cells #[] 54))) := ⟨(Below.refl _ _).alloc (Nat.le_refl _) _⟩
  cases a with
  | none =>
    have hc := hz rfl
    subst hc
    clear hz
    go_enter Try.func19, Try.ntmps19
    go_wp2_with fail
    go_loopw [6] (fun iv wr => iv = .int .i64 0 ∧ wr = w.alloc (.cells #[] 54)) (fun iv _ => 0)
    case atStart => exact ⟨rfl, rfl⟩
    case round =>
      obtain ⟨rfl, rfl⟩ := hrel
      go_wp2_with fail
      go_ret
      exact ⟨some ⟨w.heap.size, 0, none⟩, 0, [], rfl, List.Perm.refl _, Flws.nil _ _, HB.out⟩
  | some p =>
    clear hz
    obtain ⟨b, o, s⟩ := p
    go_enter Try.func19, Try.ntmps19
    go_wp2_with fail
    go_loopw [6] (fun iv wr => iv = .int .i64 0 ∧ wr = w.alloc (.cells #[] 54)) (fun iv _ => 0)
    case atStart => exact ⟨rfl, rfl⟩
    case round =>
      obtain ⟨rfl, rfl⟩ := hrel
      go_wp2_with fail
      go_ret
      exact ⟨some ⟨w.heap.size, 0, none⟩, 0, [], rfl, List.Perm.refl _, Flws.nil _ _, HB.out⟩

set_option maxHeartbeats 3200000 in
set_option maxRecDepth 100000 in
theorem mixedF_any (a : Option Addr) (l : List Fw) (c : Nat) (a' : Option Addr) (by_ : List Int) (c' : Nat) (w : World) (hl : Flws w a l) (hy : Ins w a' by_) (hz : a = none → c = 0) (hn : l.length ≤ 1000) :
    Calls Try.prog 19 #[.slice a l.length c, .slice a' by_.length c'] w (MxRetF l w) := by
  by_cases h0 : l.length = 0
  · obtain rfl : l = [] := List.length_eq_zero_iff.1 h0
    exact mixedF_nil a c a' _ c' w hz
  obtain ⟨i0, hi, hz0, hz1, hz2⟩ := info_partsF
  obtain ⟨b, o, rfl, _⟩ := hl.cell 0 (by omega)
  have HL := Hd.mk hl
  have HY := Hd.mk hy
  have HNE : Hd (l ≠ []) := ⟨fun e => h0 (by rw [e]; rfl)⟩
  obtain ⟨n, hn'⟩ : ∃ n, l.length = n := ⟨_, rfl⟩
  obtain ⟨ny, hny⟩ : ∃ n, by_.length = n := ⟨_, rfl⟩
  have b0 : Below w.heap.size w (w.alloc (.cells #[] 54)) := (Below.refl _ _).alloc (Nat.le_refl _) _
  have B0 := Hd.mk b0
  have OE : Hd ((w.alloc (.cells #[] 54)).ownsRow w.heap.size 54 3 (.slice (some ⟨w.heap.size, 0, none⟩) 0 0) 0 []) := ⟨World.ownsRow_made w #[] 0 (Nat.le_refl _) (by decide) rfl⟩
  have HX : Hd ((flV l).length = n * 3 ∧ (∀ j u, (flV l)[j]? = some u → (w.alloc (.cells #[] 54)).cell? ((⟨b, o, none⟩ : Addr).add j) = some u) ∧ (∀ u ∈ flV l, u.oneCell' = true)) := ⟨by rw [flV_len, hn'], (hl.below b0).news, flV_one l⟩
  have hlen := hy.len
  rw [hny] at hlen
  rw [hn'] at hn h0 ⊢
  rw [hny]
  have HN := Hd.mk hn'
  have HNY := Hd.mk hny
  clear hl hy hz hn' hny b0
  have HM : Hd (0 + n ≤ maxLen ∧ (0 + n) * 24 ≤ 140737488355328) := ⟨by unfold maxLen; omega, by omega⟩
  go_enter Try.func19, Try.ntmps19
  go_wp2_with (at_builtin; refine wpList_append_own _ rfl (.tmp 8) (.tmp 9) 45 rfl w.heap.size 54 i0 (.agg #[.int .i64 0, .float .f64 0, .int .i64 0]) 3 24 Try.underlying45 hi hz0 hz1 hz2 rfl (by decide) _ 0 [] rfl OE.out ⟨b, o, none⟩ n c (flV l) rfl HX.out.1 HX.out.2.1 HX.out.2.2 HM.out.1 HM.out.2 (by simp) ?_)
  intro v' w1 ho hg he
  try simp only [Nat.zero_add, List.nil_append] at ho
  obtain ⟨g, cap, rfl, hgb, hrow⟩ := FlRow.of_own ho HN.out.symm HL.out.wf HL.out.rg HNE.out
  rw [HN.out]
  have HB := Hd.mk (below_grown B0.out hg (fun k hk => (OE.out.lt k hk).1) B0.out.size)
  have HR := Hd.mk hrow
  have HG := Hd.mk hgb
  have hcap := hrow.max
  have hcap' := hrow.le
  rw [HN.out] at hcap'
  clear ho hg he hrow hgb HX HM OE B0 hi hz0 hz1 hz2
  go_wp2_with fail
  go_loopw [6] (fun iv wr => ∃ (i : Nat) (m : List Fw), i ≤ n ∧ iv = .int .i64 i ∧ Hd (m.Perm l) ∧ Hd (FlRow wr g cap m) ∧ Hd (Below w.heap.size w wr)) (fun iv _ => n - (intOf iv).toNat)
  case atStart => exact ⟨0, l, Nat.zero_le _, rfl, ⟨List.Perm.refl _⟩, HR, HB⟩
  case round =>
    clear HR HB
    obtain ⟨i, m, hi, rfl, HP, HR, HB⟩ := hrel
    have HML := Hd.mk (HP.out.length_eq.trans HN.out)
    by_cases hlt : i < n
    · have hd1 : decide (i < n) = true := by simp; omega
      by_cases hlt2 : i < ny
      · have hd2 : decide (i < ny) = true := by simp; omega
        obtain ⟨yb, yo, ha', hyc⟩ := HY.out.cell i (by rw [HNY.out]; exact hlt2)
        subst ha'
        have hyb : yb < w.heap.size := cell_lt hyc
        have hyc' : wr.cell? ⟨yb, yo + i, none⟩ = some (.int .i64 (by_.getD i 0)) := by
          have := HB.out.block yb hyb
          unfold World.cell? at *
          rw [this]; exact hyc
        have HW := Hd.mk (HY.out.wf i)
        generalize by_.getD i 0 = x at *
        obtain ⟨K, hK, hKe, hx1, hx2⟩ := place_mod x n (by omega) (by omega)
        have lI : i < m.length := by rw [HML.out]; exact hlt
        have lK : K < m.length := by rw [HML.out]; exact hK
        obtain ⟨ci1, ci2, ci3⟩ := HR.out.cell i lI
        obtain ⟨ck1, ck2, ck3⟩ := HR.out.cell K lK
        have j1 : (i : Int) < n := by omega
        have j2 : (i : Int) < ny := by omega
        have j3 : (K : Int) < n := by omega
        have hn1 : (n : Int) ≤ 1000 := by omega
        have hn2 : (1 : Int) ≤ n := by omega
        have hn3 : ((n : Int) == 0) = false := by rw [beq_eq_false_iff_ne]; omega
        have HR1 := HR.out.set i (m.getD K fw0) lI (HR.out.ok K)
        have lK1 : K < (m.set i (m.getD K fw0)).length := by rw [List.length_set]; exact lK
        have HS1 := Hd.mk (HR1.set K (m.getD i fw0) lK1 (HR.out.ok i))
        have HP1 := Hd.mk ((swapF_perm m i K lI lK).trans HP.out)
        obtain ⟨dk1, dk2, dk3⟩ := HR1.cell K lK1
        obtain ⟨q1, q2, q3, q4⟩ := HR.out.asks i (m.getD K fw0) lI
        obtain ⟨r1, r2, r3, r4⟩ := HR1.asks K (m.getD i fw0) lK1
        have fz0 : ∀ i, wr.frozen? ⟨g, i, none⟩ = false := HR.out.frozen
        have fz1 : ∀ k, (setF3 wr g i (m.getD K fw0)).frozen? ⟨g, k, none⟩ = false := HR1.frozen
        generalize ((m.set i (m.getD K fw0)).getD K fw0) = dd at *
        clear hlt hlt2 h0 hyb hyc HR1 lI lK lK1
        generalize m.getD i fw0 = p1 at *
        generalize m.getD K fw0 = p2 at *
        obtain ⟨a1, b1, x1⟩ := p1
        obtain ⟨a2, b2, x2⟩ := p2
        unfold setF3 at dk1 dk2 dk3 r1 r2 r3 r4 fz1 HS1
        dsimp only at *
        go_upto_region 6 with fail
        go_region
        go_wp2_with fail
        exact ⟨⟨i + 1, _, by omega, by go_num, HP1, ⟨HS1.out.below (below_drewN (Below.refl _ _) 1)⟩, ⟨below_drewN (setF3_below (setF3_below HB.out HG.out i ⟨a2, b2, x2⟩) HG.out K ⟨a1, b1, x1⟩) 1⟩⟩, by simp [intOf]; omega⟩
      · have hd2 : decide (i < ny) = false := by simp; omega
        have j1 : (i : Int) < n := by omega
        have j2 : (ny : Int) ≤ i := by omega
        clear hlt hlt2 h0
        go_wp2_with fail
        go_ret
        exact ⟨some ⟨g, 0, none⟩, cap, m, by rw [HN.out]; rfl, HP.out, HR.out.flws, HB.out⟩
    · have j1 : (n : Int) ≤ i := by omega
      clear hlt h0
      go_wp2_with fail
      go_ret
      exact ⟨some ⟨g, 0, none⟩, cap, m, by rw [HN.out]; rfl, HP.out, HR.out.flws, HB.out⟩

end Go.Proofs.Ythddkfkgnkbpnaa
