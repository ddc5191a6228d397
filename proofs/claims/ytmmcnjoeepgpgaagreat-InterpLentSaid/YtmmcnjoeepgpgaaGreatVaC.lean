/- The walk of the reference's Slopes (tenorref10). -/
import Derived.Test.YtmmcnjoeepgpgaaGreatUuC
import Derived.Test.YtmmcnjoeepgpgaaGreatUwC
import Derived.Test.YtmmcnjoeepgpgaaGreatM12
namespace Go.Proofs.YtmmcnjoeepgpgaaGreat
open Go.RowKit
set_option linter.unusedSimpArgs false
set_option linter.unusedVariables false

def slR (f : Nat → Nat) (k : Nat) : List Nat := (List.range k).map f
/-- It returns a row of words. -/
def RowRetU (n : Nat) (f : Nat → Nat) (w : World) (e : Ending) (w' : World) : Prop := ∃ a c, e = .returned (.tuple #[.slice (some a) n c, .int .i64 0]) ∧ Us w' (some a) (slR f n) ∧ (n ≤ c ∧ c ≤ 9223372036854775807) ∧ Below w.heap.size w w'

theorem hm_waysB (a b : Nat) (ha : F64 a) (hb : F64 b) :
    (ltB 0 a = true ∧ ltB 0 b = true ∧ Hd (hmT a b = fdiv two64f (fadd (fdiv one64 a) (fdiv one64 b)))) ∨
    (ltB 0 a = true ∧ ltB 0 b = false ∧ ltB a 0 = false ∧ Hd (hmT a b = 0)) ∨
    (ltB 0 a = false ∧ ltB a 0 = true ∧ ltB b 0 = true ∧ Hd (hmT a b = fdiv two64f (fadd (fdiv one64 a) (fdiv one64 b)))) ∨
    (ltB 0 a = false ∧ ltB a 0 = true ∧ ltB b 0 = false ∧ Hd (hmT a b = 0)) ∨
    (ltB 0 a = false ∧ ltB a 0 = false ∧ Hd (hmT a b = 0)) := by
  have h := hm_ways a b ha hb
  rw [fgt' a 0 ha ⟨by decide⟩, fgt' b 0 hb ⟨by decide⟩, flt' a 0 ha ⟨by decide⟩, flt' b 0 hb ⟨by decide⟩] at h
  exact h
theorem wds_slR (f : Nat → Nat) (k : Nat) : wds (slR f (k + 1)) = wds (slR f k) ++ [.int .u64 ((f k : Nat) : Int)] := by
  unfold slR
  rw [List.range_succ, List.map_append]
  unfold wds
  rw [List.map_append]
  rfl
theorem F64_slR {n : Nat} {f : Nat → Nat} (h : ∀ k, F64 (f k)) : ∀ i, F64 ((slR f n).getD i 0) := fun i => by
  unfold slR
  by_cases hi : i < n
  · rw [List.getD_eq_getElem?_getD, List.getElem?_map, List.getElem?_range hi]
    exact h i
  · rw [List.getD_eq_getElem?_getD, List.getElem?_eq_none (by simp; omega)]
    exact ⟨by decide⟩
theorem us_slR {w : World} {base : Nat} {v : Value} {n : Nat} {f : Nat → Nat} (hn : 1 ≤ n) (h1 : n ≤ 256) (hf : ∀ k, F64 (f k)) (h : w.ownsRow base 31 1 v n (wds (slR f n))) :
    ∃ a c, v = .slice (some a) n c ∧ Us w (some a) (slR f n) ∧ n ≤ c ∧ c ≤ 9223372036854775807 := by
  have hl : (slR f n).length = n := by unfold slR; simp
  obtain ⟨a, c, rfl, hu, hr⟩ := us_of_owns_room (l := slR f n) (by rw [hl]; exact h) (F64_slR hf) (by rw [hl]; omega)
  rw [hl] at hr ⊢
  cases a with
  | none => have := hu.nil rfl; rw [this] at hl; simp at hl; omega
  | some p => exact ⟨p, c, rfl, hu, hr⟩

set_option maxHeartbeats 1600000 in
set_option maxRecDepth 100000 in
theorem slopes10r_bad {kind : Int} {ax : Option Addr} {X : List Int} {cx : Nat} {au : Option Addr} {Y : List Nat} {cu : Nat} (hCk : CheckR kind ax X cx au Y cu) (hc : chkT kind X Y ≠ 0) (w : World) (ht : TblR w ax X au Y) :
    Calls Tryz.prog 12 #[.agg #[.int .i64 kind, .slice ax X.length cx, .slice au Y.length cu]] w fun e w' => e = .returned (.tuple #[.slice none 0 0, .int .i64 (chkT kind X Y)]) ∧ Below w.heap.size w w' := by
  have HCk := Hd.mk hCk
  unfold CheckR at HCk
  have d1 : (chkT kind X Y != 0) = true := by rw [bne_iff_ne]; exact hc
  generalize chkT kind X Y = E at *
  generalize X.length = n at *
  generalize Y.length = m at *
  obtain ⟨W, hW, b1, b2⟩ := box_r w kind ax n cx au m cu
  obtain ⟨y0, y1, y2⟩ := b1.cell
  have B2 := Hd.mk b2
  have T := Hd.mk (ht.belowK b2)
  clear b1 b2 ht hc hCk
  go_enter Tryz.func12, Tryz.ntmps12
  go_upto_region 1 with fail
  clear hW
  go_wp2_with fail
  refine (HCk.out _ T.out).mono ?_; rintro e w1 ⟨rfl, hb⟩
  have B3 := Hd.mk (B2.out.trans (hb.mono B2.out.size))
  clear hb
  go_wp2_with fail
  go_ret2
  exact ⟨rfl, B3.out⟩

set_option maxHeartbeats 6400000 in
set_option maxRecDepth 100000 in
theorem slopes10r_ok {kind : Int} {ax : Option Addr} {X : List Int} {cx : Nat} {au : Option Addr} {Y : List Nat} {cu : Nat} (hCk : CheckR kind ax X cx au Y cu) (hc : chkT kind X Y = 0) (w : World) (ht : TblR w ax X au Y) :
    Calls Tryz.prog 12 #[.agg #[.int .i64 kind, .slice ax X.length cx, .slice au Y.length cu]] w (RowRetU X.length (slT X Y X.length) w) := by
  have HCk := Hd.mk hCk
  unfold CheckR at HCk
  rw [hc] at HCk
  have ok := (chk_ok hc (ht.uy (chk_le hc)).wf).1
  have nmax := ok.max
  have npos := ok.pos
  have HSt := Hd.mk fun w1 h k hk => steep_any kind ax X cx au Y cu X.length w1 h ok k hk
  have HOK := Hd.mk ok
  rw [ok.ly] at HCk ⊢
  have HT0 := Hd.mk ht
  obtain ⟨i0, hi, hz0, hz1, hz2⟩ := info_parts info_u64
  obtain ⟨W, hW, b1, b2⟩ := box_r w kind ax X.length cx au X.length cu
  obtain ⟨y0, y1, y2⟩ := b1.cell
  have B1 := Hd.mk b1
  have B2 := Hd.mk b2
  have WS : w.heap.size + 1 ≤ W.heap.size := by rw [← hW]; simp
  obtain ⟨n, hn⟩ : ∃ n, X.length = n := ⟨_, rfl⟩
  rw [hn] at HCk HSt HOK nmax npos B1 y1 y2 hW ⊢
  clear b1 b2 ht hc ok hCk hn
  have n1 : (n : Int) ≤ 256 := by omega
  by_cases h1 : n = 1
  · have d1 : ((n : Int) == 1) = true := by rw [beq_iff_eq]; omega
    have H1 := Hd.mk h1
    clear h1 npos nmax n1
    go_enter Tryz.func12, Tryz.ntmps12
    go_upto_region 1 with fail
    clear hW
    go_wp2_with fail
    refine (HCk.out _ (HT0.out.belowK B2.out)).mono ?_; rintro e w1 ⟨rfl, hb⟩
    have B3 := Hd.mk (B2.out.trans (hb.mono B2.out.size))
    obtain ⟨z0, z1, z2⟩ := (B1.out.below hb).cell
    clear hb y0 y1 y2
    have HO := Hd.mk (World.ownsRow_lit (e := 31) (size := 1) (base := w.heap.size) w1 #[.int .u64 0] 1 B3.out.size (by decide) rfl)
    have HB := Hd.mk (B3.out.alloc B3.out.size (.cells #[.int .u64 0] 31))
    go_wp2_with fail
    go_ret2
    obtain rfl := H1.out
    obtain ⟨a, c, e, hu, hr⟩ := us_slR (f := slT X Y 1) (by omega) (by omega) (fun k => F64_slT X Y 1 k) (show (w1.alloc (.cells #[.int .u64 0] 31)).ownsRow w.heap.size 31 1 (.slice (some ⟨w1.heap.size, 0, none⟩) 1 1) 1 (wds (slR (slT X Y 1) 1)) from by
      have hs : wds (slR (slT X Y 1) 1) = [.int .u64 0] := by
        rw [wds_slR]; unfold slT; rw [if_pos rfl]; rfl
      rw [hs]; exact HO.out)
    simp only [Value.slice.injEq, Option.some.injEq] at e
    obtain ⟨rfl, _, rfl⟩ := e
    exact ⟨_, 1, rfl, hu, hr, HB.out⟩
  have d1 : ((n : Int) == 1) = false := by rw [beq_eq_false_iff_ne]; omega
  have HS0 : Hd (∀ w1, TblR w1 ax X au Y → Calls Tryz.prog 31 #[.agg #[.int .i64 kind, .slice ax n cx, .slice au n cu], .int .i64 0] w1 fun e w' => e = .returned (.int .u64 (slT X Y n 0 : Nat)) ∧ Below w1.heap.size w1 w') := ⟨fun w1 h => by
    have := HSt.out w1 h 0 (by omega)
    rw [show slT X Y n 0 = rsT X Y 0 by unfold slT; rw [if_neg h1, if_pos rfl]]
    exact this⟩
  have HSL : Hd (∀ w1, TblR w1 ax X au Y → Calls Tryz.prog 31 #[.agg #[.int .i64 kind, .slice ax n cx, .slice au n cu], .int .i64 ((n : Int) - 2)] w1 fun e w' => e = .returned (.int .u64 (slT X Y n (n - 1) : Nat)) ∧ Below w1.heap.size w1 w') := ⟨fun w1 h => by
    have := HSt.out w1 h (n - 2) (by omega)
    rw [show (((n - 2 : Nat)) : Int) = (n : Int) - 2 by omega] at this
    rw [show slT X Y n (n - 1) = rsT X Y (n - 2) by unfold slT; rw [if_neg h1, if_neg (by omega), if_pos (by omega)]]
    exact this⟩
  have wr1 : IntKind.i64.wrap ((n : Int) - 2) = (n : Int) - 2 := IntWalk.i64_in _ (by omega)
  obtain ⟨f, hf⟩ : ∃ f, slT X Y n = f := ⟨_, rfl⟩
  have HF : Hd (∀ k, F64 (f k)) := ⟨fun k => by rw [← hf]; exact F64_slT X Y n k⟩
  have HFm : Hd (∀ k, k + 2 < n → f (k + 1) = hmT (rsT X Y k) (rsT X Y (k + 1))) := ⟨fun k hk => by rw [← hf]; exact slT_m X Y n k hk⟩
  rw [hf] at HS0 HSL ⊢
  clear hf
  go_enter Tryz.func12, Tryz.ntmps12
  go_upto_region 1 with fail
  clear hW
  go_wp2_with fail
  refine (HCk.out _ (HT0.out.belowK B2.out)).mono ?_; rintro e w1 ⟨rfl, hb⟩
  have B3 := Hd.mk (B2.out.trans (hb.mono B2.out.size))
  have U1 := Hd.mk (B1.out.below hb)
  have S1 : w.heap.size + 1 ≤ w1.heap.size := Nat.le_trans WS hb.size
  obtain ⟨z0, z1, z2⟩ := U1.out.cell
  clear hb y0 y1 y2
  go_wp2_with fail
  refine (HS0.out _ (HT0.out.belowK B3.out)).mono ?_; rintro e w2 ⟨rfl, hb⟩
  have B4 := Hd.mk (B3.out.trans (hb.mono B3.out.size))
  have U2 := Hd.mk (U1.out.below hb)
  have S2 : w.heap.size + 1 ≤ w2.heap.size := Nat.le_trans S1 hb.size
  clear hb z0 z1 z2
  have HO2 : Hd ((w2.alloc (.cells #[.int .u64 (f 0 : Nat)] 31)).ownsRow (w.heap.size + 1) 31 1 (.slice (some ⟨w2.heap.size, 0, none⟩) 1 1) 1 (wds (slR f 1))) := ⟨by
    have h := World.ownsRow_lit (e := 31) (size := 1) (base := w.heap.size + 1) w2 #[.int .u64 (f 0 : Nat)] 1 S2 (by decide) rfl
    rw [wds_slR]
    exact h⟩
  have U3 := Hd.mk (U2.out.below ((Below.refl _ _).alloc (Nat.le_refl _) (.cells #[.int .u64 (f 0 : Nat)] 31)))
  have B5 := Hd.mk (B4.out.alloc B4.out.size (.cells #[.int .u64 (f 0 : Nat)] 31))
  have S3 : w.heap.size + 1 ≤ (w2.alloc (.cells #[.int .u64 (f 0 : Nat)] 31)).heap.size := Nat.le_trans S2 (World.alloc_size_le _ _)
  go_wp2_with fail
  go_loopw [6, 7, 8, 9, 10] (fun v iv _ _ _ wr => ∃ (k : Nat), k + 2 ≤ n ∧ iv = .int .i64 ((k : Int) + 1) ∧ Hd (wr.ownsRow (w.heap.size + 1) 31 1 v (k + 1) (wds (slR f (k + 1)))) ∧ Hd (BoxR wr w.heap.size kind ax n cx au n cu) ∧ Hd (Below w.heap.size w wr) ∧ w.heap.size + 1 ≤ wr.heap.size) (fun _ iv _ _ _ _ => n - (intOf iv).toNat)
  case atStart => exact ⟨0, by omega, rfl, HO2, U3, B5, S3⟩
  case round =>
    clear HO2 U1 U2 U3 B3 B4 B5 S1 S2 S3 WS B1 B2
    obtain ⟨k, hk, rfl, HO, HU, HB, HS⟩ := hrel
    have k0 : (0 : Int) ≤ k := by omega
    have wk1 : IntKind.i64.wrap ((k : Int) + 1 + 1) = (k : Int) + 1 + 1 := IntWalk.i64_in _ (by omega)
    have wk2 : IntKind.i64.wrap ((k : Int) + 1 - 1) = (k : Int) := by rw [Int.add_sub_cancel]; exact IntWalk.i64_in _ (by omega)
    obtain ⟨y0, y1, y2⟩ := HU.out.cell
    by_cases hlt : k + 2 < n
    · have hlt' : (k : Int) + 1 + 1 < n := by omega
      have d2 := decide_eq_true hlt'
      have HA := Hd.mk fun w1 h => HSt.out w1 h k (by omega)
      have HB' := Hd.mk fun w1 h => HSt.out w1 h (k + 1) (by omega)
      rw [show (((k + 1 : Nat)) : Int) = (k : Int) + 1 by omega] at HB'
      have HM := Hd.mk (HFm.out k hlt)
      have FA := Hd.mk (F64_rsT X Y k)
      have FB := Hd.mk (F64_rsT X Y (k + 1))
      generalize rsT X Y k = A at *
      generalize rsT X Y (k + 1) = B at *
      have HT := Hd.mk (wds_slR f (k + 1))
      have L1 := Hd.mk (rLt_any 0 A ⟨by decide⟩ FA.out)
      have L2 := Hd.mk (rLt_any 0 B ⟨by decide⟩ FB.out)
      have L3 := Hd.mk (rLt_any A 0 FA.out ⟨by decide⟩)
      have L4 := Hd.mk (rLt_any B 0 FB.out ⟨by decide⟩)
      have ways := hm_waysB A B FA.out FB.out
      clear hlt
      go_wp2_with fail
      refine (HA.out _ (HT0.out.belowK HB.out)).mono ?_; rintro e w1 ⟨rfl, hb⟩
      have HO1 := Hd.mk (owns_below HO.out hb)
      have HU1 := Hd.mk (HU.out.below hb)
      have HB1 := Hd.mk (HB.out.trans (hb.mono HB.out.size))
      have HS1 : w.heap.size + 1 ≤ w1.heap.size := Nat.le_trans HS hb.size
      clear hb y0 y1 y2
      obtain ⟨y0, y1, y2⟩ := HU1.out.cell
      go_wp2_with fail
      refine (HB'.out _ (HT0.out.belowK HB1.out)).mono ?_; rintro e w2 ⟨rfl, hb⟩
      have HO2 := Hd.mk (owns_below HO1.out hb)
      have HU2 := Hd.mk (HU1.out.below hb)
      have HB2 := Hd.mk (HB1.out.trans (hb.mono HB1.out.size))
      have HS2 : w.heap.size + 1 ≤ w2.heap.size := Nat.le_trans HS1 hb.size
      clear hb y0 y1 y2 HO HU HB HS HO1 HU1 HB1 HS1
      rcases ways with ⟨t1, t2, H⟩ | ⟨t1, t2, t3, H⟩ | ⟨t1, t2, t3, H⟩ | ⟨t1, t2, t3, H⟩ | ⟨t1, t2, H⟩
      · rw [t1] at L1
        rw [t2] at L2
        have D1 := Hd.mk (rDiv_any one64 A one_ok.1 FA.out)
        have D2 := Hd.mk (rDiv_any one64 B one_ok.1 FB.out)
        have D3 := Hd.mk (rAdd_any (fdiv one64 A) (fdiv one64 B) (F64_fdiv _ _) (F64_fdiv _ _))
        have D4 := Hd.mk (rDiv_any two64f (fadd (fdiv one64 A) (fdiv one64 B)) two_ok.1 (F64_fadd _ _))
        rw [← H.out, ← HM.out] at D4
        clear t1 t2 H
        go_wp2_with fail
        refine (L1.out _).mono ?_; rintro en w' ⟨rfl, rfl⟩
        go_wp2_with fail
        refine (L2.out _).mono ?_; rintro en w' ⟨rfl, rfl⟩
        go_wp2_with fail
        refine (D1.out _).mono ?_; rintro en w3 ⟨rfl, hb⟩
        have HO3 := Hd.mk (owns_below HO2.out hb)
        have HU3 := Hd.mk (HU2.out.below hb)
        have HB3 := Hd.mk (HB2.out.trans (hb.mono HB2.out.size))
        have HS3 : w.heap.size + 1 ≤ w3.heap.size := Nat.le_trans HS2 hb.size
        clear hb
        go_wp2_with fail
        refine (D2.out _).mono ?_; rintro en w4 ⟨rfl, hb⟩
        have HO4 := Hd.mk (owns_below HO3.out hb)
        have HU4 := Hd.mk (HU3.out.below hb)
        have HB4 := Hd.mk (HB3.out.trans (hb.mono HB3.out.size))
        have HS4 : w.heap.size + 1 ≤ w4.heap.size := Nat.le_trans HS3 hb.size
        clear hb
        go_wp2_with fail
        refine (D3.out _).mono ?_; rintro en w5 ⟨rfl, hb⟩
        have HO5 := Hd.mk (owns_below HO4.out hb)
        have HU5 := Hd.mk (HU4.out.below hb)
        have HB5 := Hd.mk (HB4.out.trans (hb.mono HB4.out.size))
        have HS5 : w.heap.size + 1 ≤ w5.heap.size := Nat.le_trans HS4 hb.size
        clear hb
        go_wp2_with fail
        refine (D4.out _).mono ?_; rintro en w6 ⟨rfl, hb⟩
        have HO6 := Hd.mk (owns_below HO5.out hb)
        have HU6 := Hd.mk (HU5.out.below hb)
        have HB6 := Hd.mk (HB5.out.trans (hb.mono HB5.out.size))
        have HS6 : w.heap.size + 1 ≤ w6.heap.size := Nat.le_trans HS5 hb.size
        clear hb
        go_wp2_with (first
          | (at_builtin; refine wpList_append_own _ rfl _ _ 34 rfl (w.heap.size + 1) 31 i0 (.int .u64 0) 1 8 Tryz.underlying34 hi hz0 hz1 hz2 rfl (by decide) _ _ _ rfl (HO6.out.alloc _) ⟨w6.heap.size, 0, none⟩ 1 1 [.int .u64 (f (k + 1) : Nat)] rfl rfl ?c1 ?c2 ?c3 ?c4 ?c5 ?_)
          | fail)
        case c1 =>
          intro j u hj
          match j, hj with
          | 0, hj => simp at hj; subst hj; simp [Addr.add]
        case c2 => intro u hu; simp at hu; subst hu; rfl
        case c3 => unfold maxLen; omega
        case c4 => omega
        case c5 => simp; omega
        · intro v' w9 hown' hgrow _
          rw [← HT.out] at hown'
          have HO9 := Hd.mk hown'
          have HG : Below (w.heap.size + 1) w6 w9 := ((Below.refl _ _).alloc HS6 _).grown hgrow (by simp; omega) (owns_block HO6.out)
          have HU9 := Hd.mk (HU6.out.belowB HG (by omega))
          have HB9 := Hd.mk (HB6.out.trans (HG.mono (by omega)))
          have HS9 : w.heap.size + 1 ≤ w9.heap.size := Nat.le_trans HS6 HG.size
          clear hown' hgrow HG
          go_wp2_with fail
          exact ⟨⟨k + 1, by omega, by go_num, HO9, HU9, HB9, HS9⟩, by simp [intOf]; omega⟩
      · rw [t1] at L1
        rw [t2] at L2
        rw [t3] at L3
        have HV : Hd (Value.int .u64 0 = Value.int .u64 (f (k + 1) : Nat)) := ⟨by rw [HM.out, H.out]; rfl⟩
        clear t1 t2 H
        go_wp2_with fail
        refine (L1.out _).mono ?_; rintro en w' ⟨rfl, rfl⟩
        go_wp2_with fail
        refine (L2.out _).mono ?_; rintro en w' ⟨rfl, rfl⟩
        go_wp2_with fail
        refine (L3.out _).mono ?_; rintro en w' ⟨rfl, rfl⟩
        go_wp2_with (first
          | (at_builtin; refine wpList_append_own _ rfl _ _ 34 rfl (w.heap.size + 1) 31 i0 (.int .u64 0) 1 8 Tryz.underlying34 hi hz0 hz1 hz2 rfl (by decide) _ _ _ rfl (HO2.out.alloc _) ⟨w2.heap.size, 0, none⟩ 1 1 [.int .u64 0] rfl rfl ?c1 ?c2 ?c3 ?c4 ?c5 ?_)
          | fail)
        case c1 =>
          intro j u hj
          match j, hj with
          | 0, hj => simp at hj; subst hj; simp [Addr.add]
        case c2 => intro u hu; simp at hu; subst hu; rfl
        case c3 => unfold maxLen; omega
        case c4 => omega
        case c5 => simp; omega
        · intro v' w9 hown' hgrow _
          rw [HV.out, ← HT.out] at hown'
          have HO9 := Hd.mk hown'
          have HG : Below (w.heap.size + 1) w2 w9 := ((Below.refl _ _).alloc HS2 _).grown hgrow (by simp; omega) (owns_block HO2.out)
          have HU9 := Hd.mk (HU2.out.belowB HG (by omega))
          have HB9 := Hd.mk (HB2.out.trans (HG.mono (by omega)))
          have HS9 : w.heap.size + 1 ≤ w9.heap.size := Nat.le_trans HS2 HG.size
          clear hown' hgrow HG
          go_wp2_with fail
          exact ⟨⟨k + 1, by omega, by go_num, HO9, HU9, HB9, HS9⟩, by simp [intOf]; omega⟩
      · rw [t1] at L1
        rw [t2] at L3
        rw [t3] at L4
        have D1 := Hd.mk (rDiv_any one64 A one_ok.1 FA.out)
        have D2 := Hd.mk (rDiv_any one64 B one_ok.1 FB.out)
        have D3 := Hd.mk (rAdd_any (fdiv one64 A) (fdiv one64 B) (F64_fdiv _ _) (F64_fdiv _ _))
        have D4 := Hd.mk (rDiv_any two64f (fadd (fdiv one64 A) (fdiv one64 B)) two_ok.1 (F64_fadd _ _))
        rw [← H.out, ← HM.out] at D4
        clear t1 t2 H
        go_wp2_with fail
        refine (L1.out _).mono ?_; rintro en w' ⟨rfl, rfl⟩
        go_wp2_with fail
        refine (L3.out _).mono ?_; rintro en w' ⟨rfl, rfl⟩
        go_wp2_with fail
        refine (L4.out _).mono ?_; rintro en w' ⟨rfl, rfl⟩
        go_wp2_with fail
        refine (D1.out _).mono ?_; rintro en w3 ⟨rfl, hb⟩
        have HO3 := Hd.mk (owns_below HO2.out hb)
        have HU3 := Hd.mk (HU2.out.below hb)
        have HB3 := Hd.mk (HB2.out.trans (hb.mono HB2.out.size))
        have HS3 : w.heap.size + 1 ≤ w3.heap.size := Nat.le_trans HS2 hb.size
        clear hb
        go_wp2_with fail
        refine (D2.out _).mono ?_; rintro en w4 ⟨rfl, hb⟩
        have HO4 := Hd.mk (owns_below HO3.out hb)
        have HU4 := Hd.mk (HU3.out.below hb)
        have HB4 := Hd.mk (HB3.out.trans (hb.mono HB3.out.size))
        have HS4 : w.heap.size + 1 ≤ w4.heap.size := Nat.le_trans HS3 hb.size
        clear hb
        go_wp2_with fail
        refine (D3.out _).mono ?_; rintro en w5 ⟨rfl, hb⟩
        have HO5 := Hd.mk (owns_below HO4.out hb)
        have HU5 := Hd.mk (HU4.out.below hb)
        have HB5 := Hd.mk (HB4.out.trans (hb.mono HB4.out.size))
        have HS5 : w.heap.size + 1 ≤ w5.heap.size := Nat.le_trans HS4 hb.size
        clear hb
        go_wp2_with fail
        refine (D4.out _).mono ?_; rintro en w6 ⟨rfl, hb⟩
        have HO6 := Hd.mk (owns_below HO5.out hb)
        have HU6 := Hd.mk (HU5.out.below hb)
        have HB6 := Hd.mk (HB5.out.trans (hb.mono HB5.out.size))
        have HS6 : w.heap.size + 1 ≤ w6.heap.size := Nat.le_trans HS5 hb.size
        clear hb
        go_wp2_with (first
          | (at_builtin; refine wpList_append_own _ rfl _ _ 34 rfl (w.heap.size + 1) 31 i0 (.int .u64 0) 1 8 Tryz.underlying34 hi hz0 hz1 hz2 rfl (by decide) _ _ _ rfl (HO6.out.alloc _) ⟨w6.heap.size, 0, none⟩ 1 1 [.int .u64 (f (k + 1) : Nat)] rfl rfl ?c1 ?c2 ?c3 ?c4 ?c5 ?_)
          | fail)
        case c1 =>
          intro j u hj
          match j, hj with
          | 0, hj => simp at hj; subst hj; simp [Addr.add]
        case c2 => intro u hu; simp at hu; subst hu; rfl
        case c3 => unfold maxLen; omega
        case c4 => omega
        case c5 => simp; omega
        · intro v' w9 hown' hgrow _
          rw [← HT.out] at hown'
          have HO9 := Hd.mk hown'
          have HG : Below (w.heap.size + 1) w6 w9 := ((Below.refl _ _).alloc HS6 _).grown hgrow (by simp; omega) (owns_block HO6.out)
          have HU9 := Hd.mk (HU6.out.belowB HG (by omega))
          have HB9 := Hd.mk (HB6.out.trans (HG.mono (by omega)))
          have HS9 : w.heap.size + 1 ≤ w9.heap.size := Nat.le_trans HS6 HG.size
          clear hown' hgrow HG
          go_wp2_with fail
          exact ⟨⟨k + 1, by omega, by go_num, HO9, HU9, HB9, HS9⟩, by simp [intOf]; omega⟩
      · rw [t1] at L1
        rw [t2] at L3
        rw [t3] at L4
        have HV : Hd (Value.int .u64 0 = Value.int .u64 (f (k + 1) : Nat)) := ⟨by rw [HM.out, H.out]; rfl⟩
        clear t1 t2 H
        go_wp2_with fail
        refine (L1.out _).mono ?_; rintro en w' ⟨rfl, rfl⟩
        go_wp2_with fail
        refine (L3.out _).mono ?_; rintro en w' ⟨rfl, rfl⟩
        go_wp2_with fail
        refine (L4.out _).mono ?_; rintro en w' ⟨rfl, rfl⟩
        go_wp2_with (first
          | (at_builtin; refine wpList_append_own _ rfl _ _ 34 rfl (w.heap.size + 1) 31 i0 (.int .u64 0) 1 8 Tryz.underlying34 hi hz0 hz1 hz2 rfl (by decide) _ _ _ rfl (HO2.out.alloc _) ⟨w2.heap.size, 0, none⟩ 1 1 [.int .u64 0] rfl rfl ?c1 ?c2 ?c3 ?c4 ?c5 ?_)
          | fail)
        case c1 =>
          intro j u hj
          match j, hj with
          | 0, hj => simp at hj; subst hj; simp [Addr.add]
        case c2 => intro u hu; simp at hu; subst hu; rfl
        case c3 => unfold maxLen; omega
        case c4 => omega
        case c5 => simp; omega
        · intro v' w9 hown' hgrow _
          rw [HV.out, ← HT.out] at hown'
          have HO9 := Hd.mk hown'
          have HG : Below (w.heap.size + 1) w2 w9 := ((Below.refl _ _).alloc HS2 _).grown hgrow (by simp; omega) (owns_block HO2.out)
          have HU9 := Hd.mk (HU2.out.belowB HG (by omega))
          have HB9 := Hd.mk (HB2.out.trans (HG.mono (by omega)))
          have HS9 : w.heap.size + 1 ≤ w9.heap.size := Nat.le_trans HS2 HG.size
          clear hown' hgrow HG
          go_wp2_with fail
          exact ⟨⟨k + 1, by omega, by go_num, HO9, HU9, HB9, HS9⟩, by simp [intOf]; omega⟩
      · rw [t1] at L1
        rw [t2] at L3
        have HV : Hd (Value.int .u64 0 = Value.int .u64 (f (k + 1) : Nat)) := ⟨by rw [HM.out, H.out]; rfl⟩
        clear t1 t2 H
        go_wp2_with fail
        refine (L1.out _).mono ?_; rintro en w' ⟨rfl, rfl⟩
        go_wp2_with fail
        refine (L3.out _).mono ?_; rintro en w' ⟨rfl, rfl⟩
        go_wp2_with (first
          | (at_builtin; refine wpList_append_own _ rfl _ _ 34 rfl (w.heap.size + 1) 31 i0 (.int .u64 0) 1 8 Tryz.underlying34 hi hz0 hz1 hz2 rfl (by decide) _ _ _ rfl (HO2.out.alloc _) ⟨w2.heap.size, 0, none⟩ 1 1 [.int .u64 0] rfl rfl ?c1 ?c2 ?c3 ?c4 ?c5 ?_)
          | fail)
        case c1 =>
          intro j u hj
          match j, hj with
          | 0, hj => simp at hj; subst hj; simp [Addr.add]
        case c2 => intro u hu; simp at hu; subst hu; rfl
        case c3 => unfold maxLen; omega
        case c4 => omega
        case c5 => simp; omega
        · intro v' w9 hown' hgrow _
          rw [HV.out, ← HT.out] at hown'
          have HO9 := Hd.mk hown'
          have HG : Below (w.heap.size + 1) w2 w9 := ((Below.refl _ _).alloc HS2 _).grown hgrow (by simp; omega) (owns_block HO2.out)
          have HU9 := Hd.mk (HU2.out.belowB HG (by omega))
          have HB9 := Hd.mk (HB2.out.trans (HG.mono (by omega)))
          have HS9 : w.heap.size + 1 ≤ w9.heap.size := Nat.le_trans HS2 HG.size
          clear hown' hgrow HG
          go_wp2_with fail
          exact ⟨⟨k + 1, by omega, by go_num, HO9, HU9, HB9, HS9⟩, by simp [intOf]; omega⟩
    · have HN2 := Hd.mk (show n = k + 1 + 1 by omega)
      have hlt' : ¬ (k : Int) + 1 + 1 < n := by omega
      have d2 := decide_eq_false hlt'
      have HT := Hd.mk (wds_slR f (k + 1))
      clear hlt
      go_wp2_with fail
      refine (HSL.out _ (HT0.out.belowK HB.out)).mono ?_; rintro e w1 ⟨rfl, hb⟩
      have HO1 := Hd.mk (owns_below HO.out hb)
      have HB1 := Hd.mk (HB.out.trans (hb.mono HB.out.size))
      have HS1 : w.heap.size + 1 ≤ w1.heap.size := Nat.le_trans HS hb.size
      clear hb y0 y1 y2
      go_wp2_with (first
        | (at_builtin; refine wpList_append_own _ rfl _ _ 34 rfl (w.heap.size + 1) 31 i0 (.int .u64 0) 1 8 Tryz.underlying34 hi hz0 hz1 hz2 rfl (by decide) _ _ _ rfl (HO1.out.alloc _) ⟨w1.heap.size, 0, none⟩ 1 1 [.int .u64 (f (n - 1) : Nat)] rfl rfl ?c1 ?c2 ?c3 ?c4 ?c5 ?_)
        | fail)
      case c1 =>
        intro j u hj
        match j, hj with
        | 0, hj => simp at hj; subst hj; simp [Addr.add]
      case c2 => intro u hu; simp at hu; subst hu; rfl
      case c3 => unfold maxLen; omega
      case c4 => omega
      case c5 => simp; omega
      · intro v' w9 hown' hgrow _
        rw [show n - 1 = k + 1 by have := HN2.out; omega, ← HT.out, ← HN2.out] at hown'
        have HG : Below (w.heap.size + 1) w1 w9 := ((Below.refl _ _).alloc HS1 _).grown hgrow (by simp; omega) (owns_block HO1.out)
        have HB9 := Hd.mk (HB1.out.trans (HG.mono (by omega)))
        obtain ⟨a, c, rfl, hu, hr⟩ := us_slR (n := n) (f := f) (by omega) (by omega) HF.out hown'
        have HU9 := Hd.mk hu
        have HR9 := Hd.mk hr
        clear hown' hgrow HG hu hr
        go_wp2_with fail
        go_ret2
        exact ⟨a, c, rfl, HU9.out, HR9.out, HB9.out⟩

end Go.Proofs.YtmmcnjoeepgpgaaGreat
