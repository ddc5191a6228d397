/- The walks of the reference's Held and steep (tenorref10). -/
import Derived.Test.YtmmcnjoeepgpgaaGreatUqC
import Derived.Test.YtmmcnjoeepgpgaaGreatM12
import Derived.Test.YtmmcnjoeepgpgaaGreatUvC
import Derived.Test.YtmmcnjoeepgpgaaGreatM2
import Derived.Test.YtmmcnjoeepgpgaaGreatM7
import Derived.Test.YtmmcnjoeepgpgaaGreatM4
import Derived.Deep.RegionHeld3
namespace Go.Proofs.YtmmcnjoeepgpgaaGreat
open Go.RowKit
set_option linter.unusedSimpArgs false
set_option linter.unusedVariables false

theorem hld_1 {v a b : Nat} (h1 : ltB b a = true) : hld v a b = if ltB v b then b else if ltB a v then a else v := by unfold hld; exact if_pos h1
theorem hld_2 {v a b : Nat} (h1 : ltB b a = false) (h2 : ltB a b = true) : hld v a b = if ltB v a then a else if ltB b v then b else v := by
  have e : ¬ rk a = rk b := by
    unfold ltB at h2
    simp at h2
    omega
  unfold hld
  rw [if_neg (by rw [show ltF b a = ltB b a from rfl, h1]; decide), if_neg e]
  rfl
theorem hld_3 {v a b : Nat} (na : nn a = false) (nb : nn b = false) (h1 : ltB b a = false) (h2 : ltB a b = false) : hld v a b = if ltB v a then a else if ltB a v then a else v := by
  have e : rk a = rk b := by
    unfold ltB at h1 h2
    rw [na, nb] at h1 h2
    simp at h1 h2
    omega
  unfold hld
  rw [if_neg (by rw [show ltF b a = ltB b a from rfl, h1]; decide), if_pos e]
  rfl

set_option maxHeartbeats 1600000 in
theorem held10r_any (v a b : Nat) (hv : F64 v) (ha : F64 a) (hb : F64 b) (na : nn a = false) (nb : nn b = false) (w : World) :
    Calls Tryz.prog 26 #[.int .u64 v, .int .u64 a, .int .u64 b] w fun e w' => e = .returned (.int .u64 (hld v a b : Nat)) ∧ w = w' := by
  have HL1 := Hd.mk (rLt_any b a hb ha)
  have HL2 := Hd.mk (rLt_any a b ha hb)
  have Ha3 := Hd.mk (rLt_any v a hv ha)
  have Ha4 := Hd.mk (rLt_any a v ha hv)
  have Hb3 := Hd.mk (rLt_any v b hv hb)
  have Hb4 := Hd.mk (rLt_any b v hb hv)
  cases h1 : ltB b a
  · rw [h1] at HL1
    cases h2 : ltB a b
    · rw [h2] at HL2
      cases h3 : ltB v a
      · cases h4 : ltB a v
        · rw [h3] at Ha3
          rw [h4] at Ha4
          have H : Hd (((v : Nat) : Int) = (hld v a b : Nat)) := ⟨by rw [hld_3 na nb h1 h2, h3, h4]; rfl⟩
          clear h1 h2 h3 h4
          go_enter Tryz.func26, Tryz.ntmps26
          go_wp2_with fail
          refine (HL1.out _).mono ?_; rintro en w' ⟨rfl, rfl⟩
          go_wp2_with fail
          refine (HL2.out _).mono ?_; rintro en w' ⟨rfl, rfl⟩
          go_wp2_with fail
          refine (Ha3.out _).mono ?_; rintro en w' ⟨rfl, rfl⟩
          go_wp2_with fail
          refine (Ha4.out _).mono ?_; rintro en w' ⟨rfl, rfl⟩
          go_wp2_with fail
          go_ret
          exact ⟨ret_int H.out, rfl⟩
        · rw [h3] at Ha3
          rw [h4] at Ha4
          have H : Hd (((a : Nat) : Int) = (hld v a b : Nat)) := ⟨by rw [hld_3 na nb h1 h2, h3, h4]; rfl⟩
          clear h1 h2 h3 h4
          go_enter Tryz.func26, Tryz.ntmps26
          go_wp2_with fail
          refine (HL1.out _).mono ?_; rintro en w' ⟨rfl, rfl⟩
          go_wp2_with fail
          refine (HL2.out _).mono ?_; rintro en w' ⟨rfl, rfl⟩
          go_wp2_with fail
          refine (Ha3.out _).mono ?_; rintro en w' ⟨rfl, rfl⟩
          go_wp2_with fail
          refine (Ha4.out _).mono ?_; rintro en w' ⟨rfl, rfl⟩
          go_wp2_with fail
          go_ret
          exact ⟨ret_int H.out, rfl⟩
      · rw [h3] at Ha3
        have H : Hd (((a : Nat) : Int) = (hld v a b : Nat)) := ⟨by rw [hld_3 na nb h1 h2, h3]; rfl⟩
        clear h1 h2 h3
        go_enter Tryz.func26, Tryz.ntmps26
        go_wp2_with fail
        refine (HL1.out _).mono ?_; rintro en w' ⟨rfl, rfl⟩
        go_wp2_with fail
        refine (HL2.out _).mono ?_; rintro en w' ⟨rfl, rfl⟩
        go_wp2_with fail
        refine (Ha3.out _).mono ?_; rintro en w' ⟨rfl, rfl⟩
        go_wp2_with fail
        go_ret
        exact ⟨ret_int H.out, rfl⟩
    · rw [h2] at HL2
      cases h3 : ltB v a
      · cases h4 : ltB b v
        · rw [h3] at Ha3
          rw [h4] at Hb4
          have H : Hd (((v : Nat) : Int) = (hld v a b : Nat)) := ⟨by rw [hld_2 h1 h2, h3, h4]; rfl⟩
          clear h1 h2 h3 h4
          go_enter Tryz.func26, Tryz.ntmps26
          go_wp2_with fail
          refine (HL1.out _).mono ?_; rintro en w' ⟨rfl, rfl⟩
          go_wp2_with fail
          refine (HL2.out _).mono ?_; rintro en w' ⟨rfl, rfl⟩
          go_wp2_with fail
          refine (Ha3.out _).mono ?_; rintro en w' ⟨rfl, rfl⟩
          go_wp2_with fail
          refine (Hb4.out _).mono ?_; rintro en w' ⟨rfl, rfl⟩
          go_wp2_with fail
          go_ret
          exact ⟨ret_int H.out, rfl⟩
        · rw [h3] at Ha3
          rw [h4] at Hb4
          have H : Hd (((b : Nat) : Int) = (hld v a b : Nat)) := ⟨by rw [hld_2 h1 h2, h3, h4]; rfl⟩
          clear h1 h2 h3 h4
          go_enter Tryz.func26, Tryz.ntmps26
          go_wp2_with fail
          refine (HL1.out _).mono ?_; rintro en w' ⟨rfl, rfl⟩
          go_wp2_with fail
          refine (HL2.out _).mono ?_; rintro en w' ⟨rfl, rfl⟩
          go_wp2_with fail
          refine (Ha3.out _).mono ?_; rintro en w' ⟨rfl, rfl⟩
          go_wp2_with fail
          refine (Hb4.out _).mono ?_; rintro en w' ⟨rfl, rfl⟩
          go_wp2_with fail
          go_ret
          exact ⟨ret_int H.out, rfl⟩
      · rw [h3] at Ha3
        have H : Hd (((a : Nat) : Int) = (hld v a b : Nat)) := ⟨by rw [hld_2 h1 h2, h3]; rfl⟩
        clear h1 h2 h3
        go_enter Tryz.func26, Tryz.ntmps26
        go_wp2_with fail
        refine (HL1.out _).mono ?_; rintro en w' ⟨rfl, rfl⟩
        go_wp2_with fail
        refine (HL2.out _).mono ?_; rintro en w' ⟨rfl, rfl⟩
        go_wp2_with fail
        refine (Ha3.out _).mono ?_; rintro en w' ⟨rfl, rfl⟩
        go_wp2_with fail
        go_ret
        exact ⟨ret_int H.out, rfl⟩
  · rw [h1] at HL1
    have h2 := h1
    cases h3 : ltB v b
    · cases h4 : ltB a v
      · rw [h3] at Hb3
        rw [h4] at Ha4
        have H : Hd (((v : Nat) : Int) = (hld v a b : Nat)) := ⟨by rw [hld_1 h1, h3, h4]; rfl⟩
        clear h1 h2 h3 h4
        go_enter Tryz.func26, Tryz.ntmps26
        go_wp2_with fail
        refine (HL1.out _).mono ?_; rintro en w' ⟨rfl, rfl⟩
        go_wp2_with fail
        refine (Hb3.out _).mono ?_; rintro en w' ⟨rfl, rfl⟩
        go_wp2_with fail
        refine (Ha4.out _).mono ?_; rintro en w' ⟨rfl, rfl⟩
        go_wp2_with fail
        go_ret
        exact ⟨ret_int H.out, rfl⟩
      · rw [h3] at Hb3
        rw [h4] at Ha4
        have H : Hd (((a : Nat) : Int) = (hld v a b : Nat)) := ⟨by rw [hld_1 h1, h3, h4]; rfl⟩
        clear h1 h2 h3 h4
        go_enter Tryz.func26, Tryz.ntmps26
        go_wp2_with fail
        refine (HL1.out _).mono ?_; rintro en w' ⟨rfl, rfl⟩
        go_wp2_with fail
        refine (Hb3.out _).mono ?_; rintro en w' ⟨rfl, rfl⟩
        go_wp2_with fail
        refine (Ha4.out _).mono ?_; rintro en w' ⟨rfl, rfl⟩
        go_wp2_with fail
        go_ret
        exact ⟨ret_int H.out, rfl⟩
    · rw [h3] at Hb3
      have H : Hd (((b : Nat) : Int) = (hld v a b : Nat)) := ⟨by rw [hld_1 h1, h3]; rfl⟩
      clear h1 h2 h3
      go_enter Tryz.func26, Tryz.ntmps26
      go_wp2_with fail
      refine (HL1.out _).mono ?_; rintro en w' ⟨rfl, rfl⟩
      go_wp2_with fail
      refine (Hb3.out _).mono ?_; rintro en w' ⟨rfl, rfl⟩
      go_wp2_with fail
      go_ret
      exact ⟨ret_int H.out, rfl⟩

theorem keep6 {w w' : World} (hb : Below w.heap.size w w') {b1 o1 b2 o2 b3 o3 b4 o4 b5 o5 b6 o6 : Nat} {v1 v2 v3 v4 v5 v6 : Value}
    (h : w.cell? ⟨b1, o1, none⟩ = some v1 ∧ w.cell? ⟨b2, o2, none⟩ = some v2 ∧ w.cell? ⟨b3, o3, none⟩ = some v3 ∧ w.cell? ⟨b4, o4, none⟩ = some v4 ∧ w.cell? ⟨b5, o5, none⟩ = some v5 ∧ w.cell? ⟨b6, o6, none⟩ = some v6) :
    w'.cell? ⟨b1, o1, none⟩ = some v1 ∧ w'.cell? ⟨b2, o2, none⟩ = some v2 ∧ w'.cell? ⟨b3, o3, none⟩ = some v3 ∧ w'.cell? ⟨b4, o4, none⟩ = some v4 ∧ w'.cell? ⟨b5, o5, none⟩ = some v5 ∧ w'.cell? ⟨b6, o6, none⟩ = some v6 :=
  ⟨cell_of_below hb (Nat.le_refl _) h.1, cell_of_below hb (Nat.le_refl _) h.2.1, cell_of_below hb (Nat.le_refl _) h.2.2.1, cell_of_below hb (Nat.le_refl _) h.2.2.2.1, cell_of_below hb (Nat.le_refl _) h.2.2.2.2.1, cell_of_below hb (Nat.le_refl _) h.2.2.2.2.2⟩
theorem below_go {w W W' : World} (hb : Below W.heap.size W W') (h : Hd (Below w.heap.size w W)) : Hd (Below w.heap.size w W') := ⟨h.out.trans (hb.mono h.out.size)⟩

set_option maxHeartbeats 3200000 in
set_option maxRecDepth 100000 in
theorem steep_any (kind : Int) (ax : Option Addr) (X : List Int) (cx : Nat) (au : Option Addr) (Y : List Nat) (cu : Nat) (n : Nat) (w : World) (ht : TblR w ax X au Y) (hk : TOk X Y n) (k : Nat) (hkn : k + 1 < n) :
    Calls Tryz.prog 31 #[.agg #[.int .i64 kind, .slice ax n cx, .slice au n cu], .int .i64 k] w fun e w' => e = .returned (.int .u64 (rsT X Y k : Nat)) ∧ Below w.heap.size w w' := by
  obtain ⟨W, hW, b1, b2⟩ := box_r w kind ax n cx au n cu
  obtain ⟨x0, x1, x2⟩ := b1.cell
  have B2 := Hd.mk b2.drew
  have T := ht.belowK b2
  obtain ⟨bx, ox, hax, c1⟩ := T.ix.at k (by rw [hk.lx]; omega)
  obtain ⟨bx', ox', hax', c2⟩ := T.ix.at (k + 1) (by rw [hk.lx]; omega)
  rw [hax] at hax'
  cases hax'
  obtain ⟨bu, ou, hau, c3⟩ := (T.uy (by rw [hk.ly]; exact hk.max)).at k (by rw [hk.ly]; omega)
  obtain ⟨bu', ou', hau', c4⟩ := (T.uy (by rw [hk.ly]; exact hk.max)).at (k + 1) (by rw [hk.ly]; omega)
  rw [hau] at hau'
  cases hau'
  have HR : Hd (fdiv (fsub (Y.getD (k + 1) 0) (Y.getD k 0)) (floatOfInt .f64 (X.getD (k + 1) 0 - X.getD k 0)) = rsT X Y k) := ⟨rfl⟩
  obtain ⟨f1, f2, f3⟩ := hk.fi hkn
  have HSub := Hd.mk (rSub_any (Y.getD (k + 1) 0) (Y.getD k 0) (hk.wf _) (hk.wf _))
  have hst := hk.step hkn
  have HInt := Hd.mk (rInt_any (X.getD (k + 1) 0 - X.getD k 0) (by omega) (by omega))
  have HDiv := Hd.mk (rDiv_any (fsub (Y.getD (k + 1) 0) (Y.getD k 0)) (floatOfInt .f64 (X.getD (k + 1) 0 - X.getD k 0)) (F64_fsub _ _) f1)
  rw [HR.out] at HDiv
  have nmax := hk.max
  have wr0 : IntKind.i64.wrap (X.getD (k + 1) 0 - X.getD k 0) = X.getD (k + 1) 0 - X.getD k 0 := IntWalk.i64_in _ (by omega)
  subst hax
  subst hau
  have wr1 : IntKind.i64.wrap ((k : Int) + 1) = (k : Int) + 1 := IntWalk.i64_in _ (by omega)
  have wr2 : ((k : Int) + 1).toNat = k + 1 := by omega
  have p0 : (0 : Int) ≤ k := by omega
  have p1 : (k : Int) < n := by omega
  have p2 : (0 : Int) ≤ (k : Int) + 1 := by omega
  have p3 : (k : Int) + 1 < n := by omega
  generalize rsT X Y k = R at *
  generalize fsub (Y.getD (k + 1) 0) (Y.getD k 0) = A at *
  generalize floatOfInt .f64 (X.getD (k + 1) 0 - X.getD k 0) = B at *
  generalize X.getD k 0 = xa at *
  generalize X.getD (k + 1) 0 = xb at *
  generalize Y.getD k 0 = ya at *
  generalize Y.getD (k + 1) 0 = yb at *
  have S0 : (W.drew.cell? ⟨w.heap.size, 1, none⟩ = some (.slice (some ⟨bx, ox, none⟩) n cx) ∧ W.drew.cell? ⟨w.heap.size, 2, none⟩ = some (.slice (some ⟨bu, ou, none⟩) n cu) ∧ W.drew.cell? ⟨bx, ox + k, none⟩ = some (.int .i64 xa) ∧ W.drew.cell? ⟨bx, ox + (k + 1), none⟩ = some (.int .i64 xb) ∧ W.drew.cell? ⟨bu, ou + k, none⟩ = some (.int .u64 ya) ∧ W.drew.cell? ⟨bu, ou + (k + 1), none⟩ = some (.int .u64 yb)) := ⟨x1, x2, c1, c2, c3, c4⟩
  clear hk ht T b1 b2 f1 f2 f3 HR hst x0 x1 x2 c1 c2 c3 c4
  go_enter Tryz.func31, Tryz.ntmps31
  go_upto_region 1 with fail
  clear hW
  go_region_held3 (fun w' => w'.cell? ⟨w.heap.size, 1, none⟩ = some (.slice (some ⟨bx, ox, none⟩) n cx) ∧ w'.cell? ⟨w.heap.size, 2, none⟩ = some (.slice (some ⟨bu, ou, none⟩) n cu) ∧ w'.cell? ⟨bx, ox + k, none⟩ = some (.int .i64 xa) ∧ w'.cell? ⟨bx, ox + (k + 1), none⟩ = some (.int .i64 xb) ∧ w'.cell? ⟨bu, ou + k, none⟩ = some (.int .u64 ya) ∧ w'.cell? ⟨bu, ou + (k + 1), none⟩ = some (.int .u64 yb)) (first | assumption) (
    first
    | (go_at_call 38; refine (HSub.out _).mono ?_; rintro en wa ⟨rfl, hb⟩; have SA := keep6 hb (by assumption); have CA := below_go (w := w) hb (by assumption); clear hb)
    | (go_at_call 36; refine (HInt.out _).mono ?_; rintro en wb ⟨rfl, hb⟩; have SB := keep6 hb (by assumption); have CB := below_go (w := w) hb (by assumption); clear hb)
    | (go_at_call 33; refine (HDiv.out _).mono ?_; rintro en wc ⟨rfl, hb⟩; have SC := keep6 hb (by assumption); have CC := below_go (w := w) hb (by assumption); clear hb))
  all_goals
    go_wp2_with fail
    go_ret
    exact ⟨rfl, CC.out⟩

end Go.Proofs.YtmmcnjoeepgpgaaGreat
