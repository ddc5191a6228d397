/- Put together out of several texts: Yy Yz. -/
import Derived.Test.YthddkfkgnkbpnaaM16
import Derived.Test.YthddkfkgnkbpnaaM19
import Derived.Test.YthddkfkgnkbpnaaM11
import Derived.StillTailTactics
import Derived.Laws.AppendOwnNone

/- A list of pairs of the call's own; the walk of tenorlaw23's mixed. -/
namespace Go.Proofs.Ythddkfkgnkbpnaa
open Go.RowKit
set_option linter.unusedSimpArgs false
set_option linter.unusedVariables false

/-- A row of pairs of the call's own: its first ones are the list L. -/
structure PRow (w : World) (g cap : Nat) (L : List Pr) : Prop where
  le : L.length ≤ cap
  max : cap ≤ 9223372036854775807
  row : ∃ F : Nat → Value, w.rowIs g 40 (cap * 3) F ∧ ∀ k, k < L.length → F (k * 3) = .int .i64 (L.getD k pr0).a ∧ F (k * 3 + 1) = .int .i64 (L.getD k pr0).b ∧ F (k * 3 + 2) = .float .f64 (L.getD k pr0).x
  wf : ∀ k, F64 (L.getD k pr0).x
  rg : ∀ k, (-9223372036854775808 ≤ (L.getD k pr0).a ∧ (L.getD k pr0).a ≤ 9223372036854775807) ∧ (-9223372036854775808 ≤ (L.getD k pr0).b ∧ (L.getD k pr0).b ≤ 9223372036854775807)
theorem PRow.lt {w : World} {g cap : Nat} {L : List Pr} (h : PRow w g cap L) : g < w.heap.size := by
  obtain ⟨F, hr, _⟩ := h.row
  exact World.rowIs.lt hr
theorem PRow.frozen {w : World} {g cap : Nat} {L : List Pr} (h : PRow w g cap L) (i : Nat) : w.frozen? ⟨g, i, none⟩ = false := by
  obtain ⟨F, hr, _⟩ := h.row
  exact World.rowIs.frozen hr i
theorem PRow.cell {w : World} {g cap : Nat} {L : List Pr} (h : PRow w g cap L) (k : Nat) (hk : k < L.length) :
    w.cell? ⟨g, k * 3, none⟩ = some (.int .i64 (L.getD k pr0).a) ∧ w.cell? ⟨g, k * 3 + 1, none⟩ = some (.int .i64 (L.getD k pr0).b) ∧ w.cell? ⟨g, k * 3 + 2, none⟩ = some (.float .f64 (L.getD k pr0).x) := by
  obtain ⟨F, hr, hF⟩ := h.row
  obtain ⟨f1, f2, f3⟩ := hF k hk
  have hle := h.le
  refine ⟨?_, ?_, ?_⟩
  · rw [← f1]; exact World.rowIs.cell hr (by omega)
  · rw [← f2]; exact World.rowIs.cell hr (by omega)
  · rw [← f3]; exact World.rowIs.cell hr (by omega)
theorem PRow.prs {w : World} {g cap : Nat} {L : List Pr} (h : PRow w g cap L) : Prs w (some ⟨g, 0, none⟩) L where
  cell := fun k hk => by
    obtain ⟨c1, c2, c3⟩ := h.cell k hk
    exact ⟨g, 0, rfl, by rw [Nat.zero_add]; exact c1, by rw [Nat.zero_add]; exact c2, by rw [Nat.zero_add]; exact c3⟩
  wf := h.wf
  rg := h.rg
  len := Nat.le_trans h.le h.max
theorem PRow.below {w w' : World} {g cap : Nat} {L : List Pr} (h : PRow w g cap L) (hb : Below w.heap.size w w') : PRow w' g cap L := by
  obtain ⟨F, hr, hF⟩ := h.row
  exact ⟨h.le, h.max, ⟨F, hr.of_block (hb.block g h.lt), hF⟩, h.wf, h.rg⟩
/-- One pair of the list written. -/
def set3 (w : World) (g k : Nat) (p : Pr) : World := ((w.setCell ⟨g, k * 3, none⟩ (.int .i64 p.a)).setCell ⟨g, k * 3 + 1, none⟩ (.int .i64 p.b)).setCell ⟨g, k * 3 + 2, none⟩ (.float .f64 p.x)
theorem getD_setP (m : List Pr) (i : Nat) (y : Pr) (j : Nat) (hi : i < m.length) : (m.set i y).getD j pr0 = if j = i then y else m.getD j pr0 := by
  simp only [List.getD_eq_getElem?_getD, List.getElem?_set]
  by_cases h : i = j
  · subst h; simp [hi]
  · have : ¬ j = i := fun e => h e.symm
    simp [h, this]
structure PrOk (p : Pr) : Prop where
  wf : F64 p.x
  ra : -9223372036854775808 ≤ p.a ∧ p.a ≤ 9223372036854775807
  rb : -9223372036854775808 ≤ p.b ∧ p.b ≤ 9223372036854775807
theorem PRow.ok {w : World} {g cap : Nat} {L : List Pr} (h : PRow w g cap L) (k : Nat) : PrOk (L.getD k pr0) := ⟨h.wf k, (h.rg k).1, (h.rg k).2⟩
theorem PRow.set {w : World} {g cap : Nat} {L : List Pr} (h : PRow w g cap L) (k : Nat) (p : Pr) (hk : k < L.length) (hp : PrOk p) : PRow (set3 w g k p) g cap (L.set k p) where
  le := by rw [List.length_set]; exact h.le
  max := h.max
  row := by
    obtain ⟨F, hr, hF⟩ := h.row
    refine ⟨_, ((hr.set (k * 3) (.int .i64 p.a)).set (k * 3 + 1) (.int .i64 p.b)).set (k * 3 + 2) (.float .f64 p.x), fun j hj => ?_⟩
    rw [List.length_set] at hj
    rw [getD_setP _ _ _ _ hk]
    by_cases e : j = k
    · subst e
      simp
    · obtain ⟨f1, f2, f3⟩ := hF j hj
      rw [if_neg e]
      refine ⟨?_, ?_, ?_⟩
      · rw [if_neg (by omega), if_neg (by omega), if_neg (by omega)]; exact f1
      · rw [if_neg (by omega), if_neg (by omega), if_neg (by omega)]; exact f2
      · rw [if_neg (by omega), if_neg (by omega), if_neg (by omega)]; exact f3
  wf := fun j => by rw [getD_setP _ _ _ _ hk]; split; exact hp.wf; exact h.wf j
  rg := fun j => by rw [getD_setP _ _ _ _ hk]; split; exact ⟨hp.ra, hp.rb⟩; exact h.rg j
/-- What a store of a pair asks. -/
theorem PRow.asks {w : World} {g cap : Nat} {L : List Pr} (h : PRow w g cap L) (k : Nat) (p : Pr) (hk : k < L.length) :
    (w.setCell ⟨g, k * 3, none⟩ (.int .i64 p.a)).cell? ⟨g, k * 3 + 1, none⟩ = some (.int .i64 (L.getD k pr0).b) ∧
    ((w.setCell ⟨g, k * 3, none⟩ (.int .i64 p.a)).setCell ⟨g, k * 3 + 1, none⟩ (.int .i64 p.b)).cell? ⟨g, k * 3 + 2, none⟩ = some (.float .f64 (L.getD k pr0).x) ∧
    (∀ i, (w.setCell ⟨g, k * 3, none⟩ (.int .i64 p.a)).frozen? ⟨g, i, none⟩ = false) ∧
    (∀ i, ((w.setCell ⟨g, k * 3, none⟩ (.int .i64 p.a)).setCell ⟨g, k * 3 + 1, none⟩ (.int .i64 p.b)).frozen? ⟨g, i, none⟩ = false) := by
  obtain ⟨c1, c2, c3⟩ := h.cell k hk
  refine ⟨?_, ?_, fun i => ?_, fun i => ?_⟩
  · rw [World.cell?_setCell_other _ _ _ _ (by simp)]; exact c2
  · rw [World.cell?_setCell_other _ _ _ _ (by simp), World.cell?_setCell_other _ _ _ _ (by simp)]; exact c3
  · rw [World.frozen?_setCell]; exact h.frozen i
  · rw [World.frozen?_setCell, World.frozen?_setCell]; exact h.frozen i
theorem PRow.of_own {w : World} {base n : Nat} {v : Value} {L : List Pr} (h : w.ownsRow base 40 3 v n (prV L)) (hn : n = L.length) (hw : ∀ k, F64 (L.getD k pr0).x)
    (hr : ∀ k, (-9223372036854775808 ≤ (L.getD k pr0).a ∧ (L.getD k pr0).a ≤ 9223372036854775807) ∧ (-9223372036854775808 ≤ (L.getD k pr0).b ∧ (L.getD k pr0).b ≤ 9223372036854775807)) (h0 : L ≠ []) :
    ∃ g cap, v = .slice (some ⟨g, 0, none⟩) L.length cap ∧ base ≤ g ∧ PRow w g cap L := by
  subst hn
  obtain ⟨hl, h | ⟨g, cap, cur, rfl, hg, hh, hn, hc, hs, ht⟩⟩ := h
  · exact absurd (List.length_eq_zero_iff.1 h.2) h0
  refine ⟨g, cap, rfl, hg, hn, Nat.le_trans hc (by unfold maxLen; decide), ⟨fun i => cur.getD i undef, ⟨cur, hh, hs, fun i hi => ?_⟩, fun k hk => ?_⟩, hw, hr⟩
  · show cur[i]? = some (cur.getD i undef)
    rw [Array.getD_eq_getD_getElem?, Array.getElem?_eq_getElem (by omega)]
    rfl
  · obtain ⟨c1, c2, c3⟩ := prV_get L k hk
    have key : ∀ i v, i < L.length * 3 → (prV L)[i]? = some v → cur.getD i undef = v := fun i v hi hv => by
      have := congrArg (fun l : List Value => l[i]?) ht
      simp only [List.getElem?_take_of_lt hi] at this
      rw [hv] at this
      rw [Array.getD_eq_getD_getElem?, ← Array.getElem?_toList, this]
      rfl
    exact ⟨key _ _ (by omega) c1, key _ _ (by omega) c2, key _ _ (by omega) c3⟩
theorem swapP_perm (m : List Pr) (i j : Nat) (hi : i < m.length) (hj : j < m.length) : ((m.set i (m.getD j pr0)).set j (m.getD i pr0)).Perm m := by
  have := List.set_set_perm hi hj
  simpa [List.getD_eq_getElem?_getD, List.getElem?_eq_getElem hi, List.getElem?_eq_getElem hj] using this
theorem prV_len (L : List Pr) : (prV L).length = L.length * 3 := by
  unfold prV
  induction L with
  | nil => rfl
  | cons p L ih => rw [List.flatMap_cons, List.length_append, ih]; simp; omega
theorem prV_one (L : List Pr) : ∀ u ∈ prV L, u.oneCell' = true := by
  intro u hu
  unfold prV at hu
  obtain ⟨p, _, hp⟩ := List.mem_flatMap.1 hu
  simp at hp
  rcases hp with rfl | rfl | rfl <;> rfl
theorem Prs.news {w : World} {b o : Nat} {L : List Pr} (h : Prs w (some ⟨b, o, none⟩) L) (j : Nat) (u : Value) (hu : (prV L)[j]? = some u) : w.cell? ((⟨b, o, none⟩ : Addr).add j) = some u := by
  have hj : j < L.length * 3 := by rw [← prV_len]; exact (List.getElem?_eq_some_iff.1 hu).1
  rw [show (⟨b, o, none⟩ : Addr).add j = ⟨b, o + j, none⟩ by by_cases h0 : j = 0 <;> simp [Addr.add, h0]]
  obtain ⟨b', o', e, c1, c2, c3⟩ := h.cell (j / 3) (by omega)
  cases e
  obtain ⟨d1, d2, d3⟩ := prV_get L (j / 3) (by omega)
  have h3 : j = j / 3 * 3 ∨ j = j / 3 * 3 + 1 ∨ j = j / 3 * 3 + 2 := by omega
  generalize j / 3 = q at *
  rcases h3 with rfl | rfl | rfl
  · rw [d1] at hu; cases hu; exact c1
  · rw [d2] at hu; cases hu; exact c2
  · rw [d3] at hu; cases hu; exact c3

end Go.Proofs.Ythddkfkgnkbpnaa

/- The walk of tenorlaw23's mixed. -/
namespace Go.Proofs.Ythddkfkgnkbpnaa
open Go.RowKit
set_option linter.unusedSimpArgs false
set_option linter.unusedVariables false

/-- A slice with a list's pairs in another order, in memory of its own. -/
def MxRet (l : List Pr) (w : World) (e : Ending) (w' : World) : Prop :=
  ∃ a c m, e = .returned (.slice a l.length c) ∧ m.Perm l ∧ Prs w' a m ∧ Below w.heap.size w w'
theorem info_partsP : ∃ i, Try.prog.info? 40 = some i ∧ i.zero = some (.agg #[.int .i64 0, .int .i64 0, .float .f64 0]) ∧ i.size = 3 ∧ i.bytes = 24 := by
  have := info_pair
  cases h : Try.prog.info? 40 with
  | none => simp [h] at this
  | some i => simp [h] at this; exact ⟨i, rfl, this.1, this.2.1, this.2.2⟩

theorem set3_below {B : Nat} {w0 w : World} {g : Nat} (h : Below B w0 w) (hg : B ≤ g) (k : Nat) (p : Pr) : Below B w0 (set3 w g k p) := by
  unfold set3
  exact ((h.setCell (p := ⟨g, k * 3, none⟩) hg _).setCell (p := ⟨g, k * 3 + 1, none⟩) hg _).setCell (p := ⟨g, k * 3 + 2, none⟩) hg _

set_option maxHeartbeats 1600000 in
set_option maxRecDepth 100000 in
theorem mixed_nil (a : Option Addr) (c : Nat) (a' : Option Addr) (k c' : Nat) (w : World) (hz : a = none → c = 0) :
    Calls Try.prog 14 #[.slice a 0 c, .slice a' k c'] w (MxRet [] w) := by
  have HB : Hd (Below w.heap.size w (w.alloc (.cells #[] 40))) := ⟨(Below.refl _ _).alloc (Nat.le_refl _) _⟩
  cases a with
  | none =>
    have hc := hz rfl
    subst hc
    clear hz
    go_enter Try.func14, Try.ntmps14
    go_wp2_with fail
    go_loopw [6] (fun iv wr => iv = .int .i64 0 ∧ wr = w.alloc (.cells #[] 40)) (fun iv _ => 0)
    case atStart => exact ⟨rfl, rfl⟩
    case round =>
      obtain ⟨rfl, rfl⟩ := hrel
      go_wp2_with fail
      go_ret
      exact ⟨some ⟨w.heap.size, 0, none⟩, 0, [], rfl, List.Perm.refl _, Prs.nil _ _, HB.out⟩
  | some p =>
    clear hz
    obtain ⟨b, o, s⟩ := p
    go_enter Try.func14, Try.ntmps14
    go_wp2_with fail
    go_loopw [6] (fun iv wr => iv = .int .i64 0 ∧ wr = w.alloc (.cells #[] 40)) (fun iv _ => 0)
    case atStart => exact ⟨rfl, rfl⟩
    case round =>
      obtain ⟨rfl, rfl⟩ := hrel
      go_wp2_with fail
      go_ret
      exact ⟨some ⟨w.heap.size, 0, none⟩, 0, [], rfl, List.Perm.refl _, Prs.nil _ _, HB.out⟩

set_option maxHeartbeats 3200000 in
set_option maxRecDepth 100000 in
theorem mixed_any (a : Option Addr) (l : List Pr) (c : Nat) (a' : Option Addr) (by_ : List Int) (c' : Nat) (w : World) (hl : Prs w a l) (hy : Ins w a' by_) (hz : a = none → c = 0) (hn : l.length ≤ 1000) :
    Calls Try.prog 14 #[.slice a l.length c, .slice a' by_.length c'] w (MxRet l w) := by
  by_cases h0 : l.length = 0
  · obtain rfl : l = [] := List.length_eq_zero_iff.1 h0
    exact mixed_nil a c a' _ c' w hz
  obtain ⟨i0, hi, hz0, hz1, hz2⟩ := info_partsP
  obtain ⟨b, o, rfl, _⟩ := hl.cell 0 (by omega)
  have HL := Hd.mk hl
  have HY := Hd.mk hy
  have HNE : Hd (l ≠ []) := ⟨fun e => h0 (by rw [e]; rfl)⟩
  obtain ⟨n, hn'⟩ : ∃ n, l.length = n := ⟨_, rfl⟩
  obtain ⟨ny, hny⟩ : ∃ n, by_.length = n := ⟨_, rfl⟩
  have b0 : Below w.heap.size w (w.alloc (.cells #[] 40)) := (Below.refl _ _).alloc (Nat.le_refl _) _
  have B0 := Hd.mk b0
  have OE : Hd ((w.alloc (.cells #[] 40)).ownsRow w.heap.size 40 3 (.slice (some ⟨w.heap.size, 0, none⟩) 0 0) 0 []) := ⟨World.ownsRow_made w #[] 0 (Nat.le_refl _) (by decide) rfl⟩
  have HX : Hd ((prV l).length = n * 3 ∧ (∀ j u, (prV l)[j]? = some u → (w.alloc (.cells #[] 40)).cell? ((⟨b, o, none⟩ : Addr).add j) = some u) ∧ (∀ u ∈ prV l, u.oneCell' = true)) := ⟨by rw [prV_len, hn'], (hl.below b0).news, prV_one l⟩
  have hlen := hy.len
  rw [hny] at hlen
  rw [hn'] at hn h0 ⊢
  rw [hny]
  have HN := Hd.mk hn'
  have HNY := Hd.mk hny
  clear hl hy hz hn' hny b0
  have HM : Hd (0 + n ≤ maxLen ∧ (0 + n) * 24 ≤ 140737488355328) := ⟨by unfold maxLen; omega, by omega⟩
  go_enter Try.func14, Try.ntmps14
  go_wp2_with (at_builtin; refine wpList_append_own _ rfl (.tmp 8) (.tmp 9) 22 rfl w.heap.size 40 i0 (.agg #[.int .i64 0, .int .i64 0, .float .f64 0]) 3 24 Try.underlying22 hi hz0 hz1 hz2 rfl (by decide) _ 0 [] rfl OE.out ⟨b, o, none⟩ n c (prV l) rfl HX.out.1 HX.out.2.1 HX.out.2.2 HM.out.1 HM.out.2 (by simp) ?_)
  intro v' w1 ho hg he
  try simp only [Nat.zero_add, List.nil_append] at ho
  obtain ⟨g, cap, rfl, hgb, hrow⟩ := PRow.of_own ho HN.out.symm HL.out.wf HL.out.rg HNE.out
  rw [HN.out]
  have HB := Hd.mk (below_grown B0.out hg (fun k hk => (OE.out.lt k hk).1) B0.out.size)
  have HR := Hd.mk hrow
  have HG := Hd.mk hgb
  have hcap := hrow.max
  have hcap' := hrow.le
  rw [HN.out] at hcap'
  clear ho hg he hrow hgb HX HM OE B0 hi hz0 hz1 hz2
  go_wp2_with fail
  go_loopw [6] (fun iv wr => ∃ (i : Nat) (m : List Pr), i ≤ n ∧ iv = .int .i64 i ∧ Hd (m.Perm l) ∧ Hd (PRow wr g cap m) ∧ Hd (Below w.heap.size w wr)) (fun iv _ => n - (intOf iv).toNat)
  case atStart => exact ⟨0, l, Nat.zero_le _, rfl, ⟨List.Perm.refl _⟩, HR, HB⟩
  case round =>
    clear HR HB
    obtain ⟨i, m, hi, rfl, HP, HR, HB⟩ := hrel
    have HML := Hd.mk (HP.out.length_eq.trans HN.out)
    by_cases hlt : i < n
    · have hd1 : decide (i < n) = true := by simp; omega
      by_cases hlt2 : i < ny
      · have hd2 : decide (i < ny) = true := by simp; omega
        obtain ⟨yb, yo, ha', hyc⟩ := HY.out.cell i (by rw [HNY.out]; exact hlt2)
        subst ha'
        have hyb : yb < w.heap.size := cell_lt hyc
        have hyc' : wr.cell? ⟨yb, yo + i, none⟩ = some (.int .i64 (by_.getD i 0)) := by
          have := HB.out.block yb hyb
          unfold World.cell? at *
          rw [this]; exact hyc
        have HW := Hd.mk (HY.out.wf i)
        generalize by_.getD i 0 = x at *
        obtain ⟨K, hK, hKe, hx1, hx2⟩ := place_mod x n (by omega) (by omega)
        have lI : i < m.length := by rw [HML.out]; exact hlt
        have lK : K < m.length := by rw [HML.out]; exact hK
        obtain ⟨ci1, ci2, ci3⟩ := HR.out.cell i lI
        obtain ⟨ck1, ck2, ck3⟩ := HR.out.cell K lK
        have j1 : (i : Int) < n := by omega
        have j2 : (i : Int) < ny := by omega
        have j3 : (K : Int) < n := by omega
        have hn1 : (n : Int) ≤ 1000 := by omega
        have hn2 : (1 : Int) ≤ n := by omega
        have hn3 : ((n : Int) == 0) = false := by rw [beq_eq_false_iff_ne]; omega
        have HR1 := HR.out.set i (m.getD K pr0) lI (HR.out.ok K)
        have lK1 : K < (m.set i (m.getD K pr0)).length := by rw [List.length_set]; exact lK
        have HS1 := Hd.mk (HR1.set K (m.getD i pr0) lK1 (HR.out.ok i))
        have HP1 := Hd.mk ((swapP_perm m i K lI lK).trans HP.out)
        obtain ⟨dk1, dk2, dk3⟩ := HR1.cell K lK1
        obtain ⟨q1, q2, q3, q4⟩ := HR.out.asks i (m.getD K pr0) lI
        obtain ⟨r1, r2, r3, r4⟩ := HR1.asks K (m.getD i pr0) lK1
        have fz0 : ∀ i, wr.frozen? ⟨g, i, none⟩ = false := HR.out.frozen
        have fz1 : ∀ k, (set3 wr g i (m.getD K pr0)).frozen? ⟨g, k, none⟩ = false := HR1.frozen
        generalize ((m.set i (m.getD K pr0)).getD K pr0) = dd at *
        clear hlt hlt2 h0 hyb hyc HR1 lI lK lK1
        generalize m.getD i pr0 = p1 at *
        generalize m.getD K pr0 = p2 at *
        obtain ⟨a1, b1, x1⟩ := p1
        obtain ⟨a2, b2, x2⟩ := p2
        unfold set3 at dk1 dk2 dk3 r1 r2 r3 r4 fz1 HS1
        dsimp only at *
        go_upto_region 6 with fail
        go_region
        go_wp2_with fail
        exact ⟨⟨i + 1, _, by omega, by go_num, HP1, ⟨HS1.out.below (below_drewN (Below.refl _ _) 1)⟩, ⟨below_drewN (set3_below (set3_below HB.out HG.out i ⟨a2, b2, x2⟩) HG.out K ⟨a1, b1, x1⟩) 1⟩⟩, by simp [intOf]; omega⟩
      · have hd2 : decide (i < ny) = false := by simp; omega
        have j1 : (i : Int) < n := by omega
        have j2 : (ny : Int) ≤ i := by omega
        clear hlt hlt2 h0
        go_wp2_with fail
        go_ret
        exact ⟨some ⟨g, 0, none⟩, cap, m, by rw [HN.out]; rfl, HP.out, HR.out.prs, HB.out⟩
    · have j1 : (n : Int) ≤ i := by omega
      clear hlt h0
      go_wp2_with fail
      go_ret
      exact ⟨some ⟨g, 0, none⟩, cap, m, by rw [HN.out]; rfl, HP.out, HR.out.prs, HB.out⟩

end Go.Proofs.Ythddkfkgnkbpnaa
