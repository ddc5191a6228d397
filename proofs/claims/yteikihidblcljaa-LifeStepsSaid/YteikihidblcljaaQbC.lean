/- The walk of curve's Check. -/
import Derived.Test.YteikihidblcljaaQaC
import Derived.Test.YteikihidblcljaaM12
namespace Go.Proofs.Yteikihidblcljaa
open Go.RowKit
set_option linter.unusedSimpArgs false
set_option linter.unusedVariables false

/-- A block that holds a curve. -/
def BoxC (w : World) (b : Nat) (ba kind : Int) (ax : Option Addr) (nx cx : Nat) (ay : Option Addr) (ny cy : Nat) : Prop := w.heap[b]? = some (.cells #[.int .i64 ba, .int .i64 kind, .slice ax nx cx, .slice ay ny cy] 82 (0, 0))
theorem BoxC.cell {w : World} {b : Nat} {ba kind : Int} {ax : Option Addr} {nx cx : Nat} {ay : Option Addr} {ny cy : Nat} (h : BoxC w b ba kind ax nx cx ay ny cy) :
    w.cell? ⟨b, 0, none⟩ = some (.int .i64 ba) ∧ w.cell? ⟨b, 1, none⟩ = some (.int .i64 kind) ∧ w.cell? ⟨b, 2, none⟩ = some (.slice ax nx cx) ∧ w.cell? ⟨b, 3, none⟩ = some (.slice ay ny cy) := by
  unfold BoxC at h
  refine ⟨?_, ?_, ?_, ?_⟩ <;> simp [World.cell?, h]
theorem BoxC.lies {w : World} {b : Nat} {ba kind : Int} {ax : Option Addr} {nx cx : Nat} {ay : Option Addr} {ny cy : Nat} (h : BoxC w b ba kind ax nx cx ay ny cy) (o : Nat) : w.frozen? ⟨b, o, none⟩ = false := by
  unfold BoxC at h
  simp [World.frozen?, h]
theorem BoxC.lt {w : World} {b : Nat} {ba kind : Int} {ax : Option Addr} {nx cx : Nat} {ay : Option Addr} {ny cy : Nat} (h : BoxC w b ba kind ax nx cx ay ny cy) : b < w.heap.size := by
  unfold BoxC at h
  exact (Array.getElem?_eq_some_iff.1 h).1
theorem BoxC.below {w w' : World} {b : Nat} {ba kind : Int} {ax : Option Addr} {nx cx : Nat} {ay : Option Addr} {ny cy : Nat} (h : BoxC w b ba kind ax nx cx ay ny cy) (hb : Below w.heap.size w w') : BoxC w' b ba kind ax nx cx ay ny cy := (hb.block b h.lt).trans h
theorem BoxC.belowN {B : Nat} {w w' : World} {b : Nat} {ba kind : Int} {ax : Option Addr} {nx cx : Nat} {ay : Option Addr} {ny cy : Nat} (h : BoxC w b ba kind ax nx cx ay ny cy) (hb : Below B w w') (hB : b < B) : BoxC w' b ba kind ax nx cx ay ny cy := (hb.block b hB).trans h
theorem box_c (w : World) (ba kind : Int) (ax : Option Addr) (nx cx : Nat) (ay : Option Addr) (ny cy : Nat) :
    ∃ W, (w.alloc (.cells #[.int .i64 ba, .int .i64 kind, .slice ax nx cx, .slice ay ny cy] 82)) = W ∧ BoxC W w.heap.size ba kind ax nx cx ay ny cy ∧ Below w.heap.size w W := by
  refine ⟨_, rfl, ?_, ((Below.refl _ _).alloc (Nat.le_refl _) _)⟩
  unfold BoxC World.alloc; simp [Array.getElem?_push]

set_option maxHeartbeats 3200000 in
set_option maxRecDepth 100000 in
theorem curveCheck_any (ba kind : Int) (ax : Option Addr) (X : List Int) (cx : Nat) (ay : Option Addr) (Y : List Nat) (cy : Nat) (w : World) (ht : Tbl w ax X ay Y) :
    Calls Try.prog 43 #[.agg #[.int .i64 ba, .int .i64 kind, .slice ax X.length cx, .slice ay Y.length cy]] w fun e w' => e = .returned (.int .i64 (chkU ba kind X Y)) ∧ Below w.heap.size w w' := by
  have lx := ht.ix.len
  have ly := ht.fy.len
  have HT := Hd.mk ht
  obtain ⟨n, hn⟩ : ∃ n, X.length = n := ⟨_, rfl⟩
  obtain ⟨m, hm⟩ : ∃ m, Y.length = m := ⟨_, rfl⟩
  have HN := Hd.mk hn
  have HM := Hd.mk hm
  rw [hn] at lx ⊢
  rw [hm] at ly ⊢
  clear ht hn hm
  obtain ⟨W, hW, b1, b2⟩ := box_c w ba kind ax n cx ay m cy
  obtain ⟨x0, x1, x2, x3⟩ := b1.cell
  have B1 := Hd.mk b1
  have B2 := Hd.mk b2
  have HTW := Hd.mk (HT.out.belowK b2)
  clear b1 b2 HT
  by_cases hb1 : ba < 0
  · have hk : Hd (51 = chkU ba kind X Y) := ⟨(chkU_base (by unfold isDy; simp; omega)).symm⟩
    have e1 := decide_eq_true hb1
    clear hb1
    go_enter Try.func43, Try.ntmps43
    go_upto_region 1 with fail
    clear hW
    go_wp2_with fail
    go_ret
    exact ⟨ret_int hk.out, B2.out⟩
  by_cases hb2 : 109572 < ba
  · have hk : Hd (51 = chkU ba kind X Y) := ⟨(chkU_base (by unfold isDy; simp; omega)).symm⟩
    have e1 := decide_eq_false hb1
    have e2 := decide_eq_true hb2
    clear hb1 hb2
    go_enter Try.func43, Try.ntmps43
    go_upto_region 1 with fail
    clear hW
    go_wp2_with fail
    go_ret
    exact ⟨ret_int hk.out, B2.out⟩
  have D : Hd (isDy ba = true) := ⟨by unfold isDy; simp; omega⟩
  have g1 := decide_eq_false hb1
  have g2 := decide_eq_false hb2
  clear hb1 hb2
  by_cases hk1 : kind < 1
  · have hk : Hd (90 = chkU ba kind X Y) := ⟨(chkU_kind D.out (by unfold knB; simp; omega)).symm⟩
    have e1 := decide_eq_true hk1
    clear hk1
    go_enter Try.func43, Try.ntmps43
    go_upto_region 1 with fail
    clear hW
    go_wp2_with fail
    go_ret
    exact ⟨ret_int hk.out, B2.out⟩
  by_cases hk2 : 4 < kind
  · have hk : Hd (90 = chkU ba kind X Y) := ⟨(chkU_kind D.out (by unfold knB; simp; omega)).symm⟩
    have e1 := decide_eq_false hk1
    have e2 := decide_eq_true hk2
    clear hk1 hk2
    go_enter Try.func43, Try.ntmps43
    go_upto_region 1 with fail
    clear hW
    go_wp2_with fail
    go_ret
    exact ⟨ret_int hk.out, B2.out⟩
  have K : Hd (knB kind = true) := ⟨by unfold knB; simp; omega⟩
  have e1 := decide_eq_false hk1
  have e2 := decide_eq_false hk2
  clear hk1 hk2
  by_cases hl1 : n < 1
  · have hk : Hd (100 = chkU ba kind X Y) := ⟨(chkU_len D.out K.out (by unfold lnU; rw [HN.out]; simp; omega)).symm⟩
    have e3 : decide ((n : Int) < 1) = true := by simp; omega
    clear hl1
    go_enter Try.func43, Try.ntmps43
    go_upto_region 1 with fail
    clear hW
    go_wp2_with fail
    go_ret
    exact ⟨ret_int hk.out, B2.out⟩
  have e3 : decide ((n : Int) < 1) = false := by simp; omega
  by_cases hl2 : 255 < n
  · have hk : Hd (100 = chkU ba kind X Y) := ⟨(chkU_len D.out K.out (by unfold lnU; rw [HN.out]; simp; omega)).symm⟩
    have e4 : decide ((n : Int) > 255) = true := by simp; omega
    clear hl1 hl2
    go_enter Try.func43, Try.ntmps43
    go_upto_region 1 with fail
    clear hW
    go_wp2_with fail
    go_ret
    exact ⟨ret_int hk.out, B2.out⟩
  have e4 : decide ((n : Int) > 255) = false := by simp; omega
  by_cases hl3 : n = m
  rotate_left
  · have hk : Hd (100 = chkU ba kind X Y) := ⟨(chkU_len D.out K.out (by unfold lnU; rw [HN.out, HM.out]; simp; omega)).symm⟩
    have e5 : ((n : Int) != m) = true := by rw [bne_iff_ne]; omega
    clear hl1 hl2 hl3
    go_enter Try.func43, Try.ntmps43
    go_upto_region 1 with fail
    clear hW
    go_wp2_with fail
    go_ret
    exact ⟨ret_int hk.out, B2.out⟩
  have e5 : ((n : Int) != m) = false := by rw [bne_eq_false_iff_eq]; omega
  have L : Hd (lnU X Y = true) := ⟨by unfold lnU; rw [HN.out, HM.out]; simp; omega⟩
  have HL3 := Hd.mk hl3
  have n1 : n ≤ 255 := by omega
  clear hl1 hl2 hl3
  go_enter Try.func43, Try.ntmps43
  go_upto_region 1 with fail
  clear hW
  go_wp2_with fail
  go_loop [3, 47] (fun l i => ∃ k : Nat, k ≤ n ∧ i = .int .i64 k ∧ l = .int .i64 (prvU ba X k) ∧ Hd (∀ i, i < k → ndAU ba X Y i = true)) (fun _ i => n - (intOf i).toNat)
  case atStart => exact ⟨0, Nat.zero_le _, rfl, rfl, ⟨fun i hi => by omega⟩⟩
  case round =>
    obtain ⟨k, hk, rfl, rfl, HA⟩ := hrel
    by_cases hlt : k < n
    · have hlt' : (k : Int) < n := by omega
      have hltm : (k : Int) < m := by have := HL3.out; omega
      have k0 : (0 : Int) ≤ k := by omega
      obtain ⟨bx, ox, hax, hcx⟩ := HTW.out.ix.cell k (by rw [HN.out]; exact hlt)
      obtain ⟨by_, oy, hay, hcy⟩ := HTW.out.fy.at k (by rw [HM.out, ← HL3.out]; exact hlt)
      subst hax
      subst hay
      have F := Hd.mk (HTW.out.fy.wf k)
      have HX : Hd (ndAU ba X Y k = ndU (prvU ba X k) (X.getD k 0) (Y.getD k 0)) := ⟨rfl⟩
      have HBad : Hd (ndAU ba X Y k = false → 100 = chkU ba kind X Y) := ⟨fun h => (chkU_node D.out K.out L.out (by rw [HN.out]; exact hlt) h).symm⟩
      have HP : Hd (prvU ba X (k + 1) = X.getD k 0) := ⟨by unfold prvU; rw [if_neg (by omega), Nat.add_sub_cancel]⟩
      have HGo : Hd (ndAU ba X Y k = true → ∀ i, i < k + 1 → ndAU ba X Y i = true) := ⟨fun h i hi => by
        by_cases e : i = k
        · rw [e]; exact h
        · exact HA.out i (by omega)⟩
      generalize ndAU ba X Y k = nd at *
      generalize X.getD k 0 = x at *
      generalize Y.getD k 0 = y at *
      obtain ⟨p, hp⟩ : ∃ p, prvU ba X k = p := ⟨_, rfl⟩
      rw [hp] at HX ⊢
      clear hp HA
      have HCl := Hd.mk (class_any y F.out)
      by_cases t1 : x ≤ p
      · have d1 := decide_eq_true t1
        have hb := HBad.out (by rw [HX.out]; unfold ndU; simp; omega)
        have HB := Hd.mk hb
        clear t1 hb hlt
        go_wp2_with fail
        go_ret
        exact ⟨ret_int HB.out, B2.out⟩
      have d1 := decide_eq_false t1
      by_cases t2 : 109572 < x
      · have d2 : decide (x > 109572) = true := by simpa using t2
        have hb := HBad.out (by rw [HX.out]; unfold ndU; simp; omega)
        have HB := Hd.mk hb
        clear t1 t2 hb hlt
        go_wp2_with fail
        go_ret
        exact ⟨ret_int HB.out, B2.out⟩
      have d2 : decide (x > 109572) = false := by simp; omega
      cases hf : fin y
      · have d3 : decide (4 ≤ cls y) = true := cls_fin4 y false hf
        have hb := HBad.out (by rw [HX.out]; unfold ndU; rw [hf]; simp)
        have HB := Hd.mk hb
        clear t1 t2 hb hlt hf
        go_wp2_with (go_at_call 82; refine (HCl.out _).mono ?_; rintro e w' ⟨rfl, rfl⟩)
        go_ret
        exact ⟨ret_int HB.out, B2.out⟩
      have d3 : decide (4 ≤ cls y) = false := cls_fin4 y true hf
      have d5 := fgt' y 0 F.out ⟨by decide⟩
      cases hp : ltF 0 y
      · rw [hp] at d5
        have hb := HBad.out (by rw [HX.out]; unfold ndU; rw [hf, hp]; simp)
        have HB := Hd.mk hb
        clear t1 t2 hb hlt hf hp
        go_wp2_with (go_at_call 82; refine (HCl.out _).mono ?_; rintro e w' ⟨rfl, rfl⟩)
        go_ret
        exact ⟨ret_int HB.out, B2.out⟩
      · rw [hp] at d5
        have HG := Hd.mk (HGo.out (by rw [HX.out]; unfold ndU; rw [hf, hp]; simp; omega))
        clear t1 t2 hlt hf hp
        go_wp2_with (go_at_call 82; refine (HCl.out _).mono ?_; rintro e w' ⟨rfl, rfl⟩)
        refine ⟨⟨k + 1, by omega, by go_num, by rw [HP.out], HG⟩, by simp [intOf]; omega⟩
    · obtain rfl : k = n := by omega
      have HB : Hd (0 = chkU ba kind X Y) := ⟨(chkU_good D.out K.out L.out (by rw [HN.out]; exact HA.out)).symm⟩
      clear hlt
      go_wp2_with fail
      go_ret
      exact ⟨ret_int HB.out, B2.out⟩

end Go.Proofs.Yteikihidblcljaa
