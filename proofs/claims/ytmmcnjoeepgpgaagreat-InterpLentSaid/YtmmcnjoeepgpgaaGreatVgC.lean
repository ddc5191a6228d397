/- The walk of InterpAt. -/
import Derived.Test.YtmmcnjoeepgpgaaGreatVfC
import Derived.Test.YtmmcnjoeepgpgaaGreatM12
import Derived.Test.YtmmcnjoeepgpgaaGreatM6
namespace Go.Proofs.YtmmcnjoeepgpgaaGreat
open Go.RowKit
set_option linter.unusedSimpArgs false
set_option linter.unusedVariables false

theorem OfRet.tbl2 {kind : Int} {ax : Option Addr} {X : List Int} {cx : Nat} {ay : Option Addr} {Y : List Nat} {w : World} {e : Ending} {w' : World} (ht : Tbl w ax X ay Y) (h : OfRet kind ax X.length cx Y w e w') :
    ∃ au cu, e = .returned (.agg #[.int .i64 kind, .slice ax X.length cx, .slice au Y.length cu]) ∧ Hd (TblR w' ax X au Y) ∧ Hd (Y.length ≤ cu ∧ cu ≤ 9223372036854775807) ∧ Hd (Below w.heap.size w w') := by
  obtain ⟨au, cu, h1, h2, h3, h4⟩ := h
  exact ⟨au, cu, h1, ⟨⟨ht.ix.belowK h4, h2, ht.fy.len⟩⟩, ⟨h3⟩, ⟨h4⟩⟩
theorem F64_atT {kind : Int} {X : List Int} {Y : List Nat} {x : Int} (h : ∀ i, F64 (Y.getD i 0)) : F64 (atT kind X Y x).1 := by
  unfold atT btT
  repeat' split
  all_goals first
    | exact ⟨by decide⟩
    | exact h _
    | exact F64_wsT _ _ _
    | exact F64_hld (F64_fexp _) (h _) (h _)
    | exact (show F64 0 from ⟨by decide⟩)

set_option maxHeartbeats 3200000 in
set_option maxRecDepth 100000 in
theorem interpAt_any (kind : Int) (ax : Option Addr) (X : List Int) (cx : Nat) (ay : Option Addr) (Y : List Nat) (cy : Nat) (x : Int) (w : World) (_hk : -9223372036854775808 ≤ kind ∧ kind ≤ 9223372036854775807) (ht : Tbl w ax X ay Y) (_hrx : Room ax X.length cx) (hry : Room ay Y.length cy) (_hx : (Lit.int .i64 x).wf = true) (hsz : Y.length ≤ 17592186044416) :
    Calls Tryz.prog 3 #[.agg #[.int .i64 kind, .slice ax X.length cx, .slice ay Y.length cy], .int .i64 x] w fun e w' => e = .returned (.bool true) ∧ Below w.heap.size w w' := by
  have lx := ht.ix.len
  have ly := ht.fy.len
  by_cases hl : 40 < X.length
  · obtain ⟨W, hW, b1, b2⟩ := box_t w kind ax X.length cx ay Y.length cy
    obtain ⟨y0, y1, y2⟩ := b1.cell
    have B2 := Hd.mk b2
    generalize X.length = n at *
    generalize Y.length = m at *
    clear b1 b2 ht
    have d1 : decide ((n : Int) > 40) = true := by simp; omega
    clear hl
    go_enter Tryz.func3, Tryz.ntmps3
    go_upto_region 1 with fail
    clear hW
    go_wp2_with fail
    refine (awake10_any _).mono ?_; rintro e w3 ⟨rfl, hb⟩
    have C3 := Hd.mk (B2.out.trans (hb.mono B2.out.size))
    clear hb
    go_wp2_with fail
    go_ret
    exact ⟨rfl, C3.out⟩
  have d1 : decide ((X.length : Int) > 40) = false := by simp; omega
  have HA := Hd.mk fun w1 h => at_any10 kind ax X cx ay Y cy x w1 h hry
  have HO := Hd.mk fun w1 (h : Tbl w1 ax X ay Y) => (of10_any kind ax X.length cx ay Y cy w1 h.fy hsz).mono fun _ _ h2 => OfRet.tbl2 h h2
  have HRA := Hd.mk fun au cu w1 (hr : Y.length ≤ cu ∧ cu ≤ 9223372036854775807) h => atr_any (kind := kind) (ax := ax) (X := X) (cx := cx) (au := au) (Y := Y) (cu := cu) (fun w1 h => check10r_any kind ax X cx au Y cu w1 h) x w1 h hr
  have hfv := F64_atT (kind := kind) (X := X) (x := x) ht.fy.wf
  obtain ⟨V, E, hV⟩ : ∃ V E, atT kind X Y x = (V, E) := ⟨_, _, rfl⟩
  rw [hV] at HA HRA hfv
  unfold AtRet at HA
  unfold AtRetU at HRA
  dsimp only at HA HRA hfv
  have HI := Hd.mk (is_true V V hfv hfv (same_of_cn rfl))
  have e4 : (E == E) = true := by simp
  obtain ⟨W, hW, b1, b2⟩ := box_t w kind ax X.length cx ay Y.length cy
  obtain ⟨y0, y1, y2⟩ := b1.cell
  have B1 := Hd.mk b1
  have B2 := Hd.mk b2
  have T := Hd.mk (ht.belowK b2)
  generalize X.length = n at *
  generalize Y.length = m at *
  clear b1 b2 ht hV hfv hl lx ly
  go_enter Tryz.func3, Tryz.ntmps3
  go_upto_region 1 with fail
  clear hW
  go_wp2_with fail
  refine (HA.out _ T.out).mono ?_; rintro e w1 ⟨rfl, hb⟩
  have C1 := Hd.mk (B2.out.trans (hb.mono B2.out.size))
  have T1 := Hd.mk (T.out.belowK hb)
  have U1 := Hd.mk (B1.out.below hb)
  clear hb y0 y1 y2
  obtain ⟨z0, z1, z2⟩ := U1.out.cell
  go_wp2_with fail
  refine (HO.out _ T1.out).mono ?_; rintro e w2 ⟨au, cu, rfl, R2, RR, hb⟩
  have C2 := Hd.mk (C1.out.trans (hb.out.mono C1.out.size))
  clear hb z0 z1 z2
  go_wp2_with fail
  refine (HRA.out _ _ _ RR.out R2.out).mono ?_; rintro e w3 ⟨rfl, hb⟩
  have C3 := Hd.mk (C2.out.trans (hb.mono C2.out.size))
  clear hb
  go_wp2_with fail
  refine (HI.out _).mono ?_; rintro e w4 ⟨rfl, rfl⟩
  go_wp2_with fail
  refine (awake10_any _).mono ?_; rintro e w5 ⟨rfl, hb⟩
  have C5 := Hd.mk (C3.out.trans (hb.mono C3.out.size))
  clear hb
  go_wp2_with fail
  go_ret
  exact ⟨rfl, C5.out⟩

end Go.Proofs.YtmmcnjoeepgpgaaGreat
