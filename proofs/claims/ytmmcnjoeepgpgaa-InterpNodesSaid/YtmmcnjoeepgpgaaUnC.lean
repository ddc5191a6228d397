/- InterpHeld's walk. -/
import Derived.Test.YtmmcnjoeepgpgaaM12
import Derived.Test.YtmmcnjoeepgpgaaM11
namespace Go.Proofs.Ytmmcnjoeepgpgaa
open Go.RowKit
set_option linter.unusedSimpArgs false
set_option linter.unusedVariables false

/-- The lower and the higher of two floats that are no NaNs. -/
theorem fmin_run (a b : Nat) (ha : F64 a) (hb : F64 b) (na : nn a = false) (nb : nn b = false) :
    ∃ m, (∀ (P : Program) ts t w, (Builtin.min_ ts t #[.float .f64 a, .float .f64 b]).run P w = .ok (.float .f64 m) w) ∧ F64 m ∧ nn m = false ∧ rk m = min (rk a) (rk b) := by
  have ho : FloatKind.f64.format.order a b = some (compare (rk a) (rk b)) := order_eq a b ha hb na nb
  rcases Int.lt_trichotomy (rk a) (rk b) with h | h | h
  · rw [cmp_l h] at ho
    exact ⟨a, fun P ts t w => by simp [Builtin.min_, Builtin.min2, ho], ha, na, by omega⟩
  · rw [cmp_e h] at ho
    by_cases hd : (FloatKind.f64.decode a).neg
    · exact ⟨a, fun P ts t w => by simp [Builtin.min_, Builtin.min2, ho, hd], ha, na, by omega⟩
    · exact ⟨b, fun P ts t w => by simp [Builtin.min_, Builtin.min2, ho, hd], hb, nb, by omega⟩
  · rw [cmp_g h] at ho
    exact ⟨b, fun P ts t w => by simp [Builtin.min_, Builtin.min2, ho], hb, nb, by omega⟩
theorem fmax_run (a b : Nat) (ha : F64 a) (hb : F64 b) (na : nn a = false) (nb : nn b = false) :
    ∃ m, (∀ (P : Program) ts t w, (Builtin.max_ ts t #[.float .f64 a, .float .f64 b]).run P w = .ok (.float .f64 m) w) ∧ F64 m ∧ nn m = false ∧ rk m = max (rk a) (rk b) := by
  have ho : FloatKind.f64.format.order a b = some (compare (rk a) (rk b)) := order_eq a b ha hb na nb
  rcases Int.lt_trichotomy (rk a) (rk b) with h | h | h
  · rw [cmp_l h] at ho
    exact ⟨b, fun P ts t w => by simp [Builtin.max_, Builtin.max2, ho], hb, nb, by omega⟩
  · rw [cmp_e h] at ho
    by_cases hd : (FloatKind.f64.decode a).neg
    · exact ⟨b, fun P ts t w => by simp [Builtin.max_, Builtin.max2, ho, hd], hb, nb, by omega⟩
    · exact ⟨a, fun P ts t w => by simp [Builtin.max_, Builtin.max2, ho, hd], ha, na, by omega⟩
  · rw [cmp_g h] at ho
    exact ⟨a, fun P ts t w => by simp [Builtin.max_, Builtin.max2, ho], ha, na, by omega⟩

theorem leB (x y : Nat) (hx : F64 x) (hy : F64 y) (hn : nn x = false) (hm : nn y = false) (b : Bool) (h : decide (rk x ≤ rk y) = b) : (FloatKind.f64.format.order x y == some .lt || FloatKind.f64.format.order x y == some .eq) = b := (fle x y hx hy hn hm).trans h

theorem fd_at {kind : Int} {X : List Int} {Y : List Nat} {x : Int} : (atT kind X Y x).2 = (fdT kind X Y x).2 := by
  unfold atT fdT
  split
  · split
    · rfl
    · split <;> rfl
  · rfl
theorem fd_zero {kind : Int} {X : List Int} {Y : List Nat} {x : Int} (h : (fdT kind X Y x).2 = 0) : chkT kind X Y = 0 ∧ X.getD 0 0 ≤ x ∧ x ≤ lastT X ∧ fdT kind X Y x = ((fndT X x : Int), 0) := by
  unfold fdT at h ⊢
  split at h
  · rename_i hc
    rw [if_pos hc]
    split at h
    · exact absurd h (by decide)
    · rename_i hx
      rw [if_neg hx]
      exact ⟨hc, by omega, by omega, rfl⟩
  · rename_i hc
    exact absurd h hc

set_option maxHeartbeats 6400000 in
set_option maxRecDepth 100000 in
theorem interpHeld_any (kind : Int) (ax : Option Addr) (X : List Int) (cx : Nat) (ay : Option Addr) (Y : List Nat) (cy : Nat) (x : Int) (w : World) (_hk : -9223372036854775808 ≤ kind ∧ kind ≤ 9223372036854775807) (ht : Tbl w ax X ay Y) (_hrx : Room ax X.length cx) (hry : Room ay Y.length cy) (_hx : (Lit.int .i64 x).wf = true) :
    Calls Try.prog 5 #[.agg #[.int .i64 kind, .slice ax X.length cx, .slice ay Y.length cy], .int .i64 x] w fun e w' => e = .returned (.bool true) ∧ Below w.heap.size w w' := by
  have HA := Hd.mk fun w1 h => at_any10 kind ax X cx ay Y cy x w1 h hry
  have HF := Hd.mk fun w1 h => findX_any kind ax X cx ay Y cy x w1 h
  have hat := fd_at (kind := kind) (X := X) (Y := Y) (x := x)
  obtain ⟨W, hW, b1, b2⟩ := box_t w kind ax X.length cx ay Y.length cy
  have B1 := Hd.mk b1
  have B2 := Hd.mk b2
  have T := Hd.mk (ht.belowK b2)
  by_cases h0 : (fdT kind X Y x).2 = 0
  rotate_left
  · have d1 : ((fdT kind X Y x).2 != 0) = true := by rw [bne_iff_ne]; exact h0
    obtain ⟨E, hE⟩ : ∃ E, (fdT kind X Y x).2 = E := ⟨_, rfl⟩
    rw [hE] at hat d1
    have HA' : Hd (∀ w1, Tbl w1 ax X ay Y → Calls Try.prog 14 #[.agg #[.int .i64 kind, .slice ax X.length cx, .slice ay Y.length cy], .int .i64 x] w1 fun e w' => ∃ v, e = .returned (.tuple #[.float .f64 v, .int .i64 E]) ∧ Below w1.heap.size w1 w') := ⟨fun w1 h => (HA.out w1 h).mono fun e w' hh => ⟨(atT kind X Y x).1, by rw [hh.1, hat], hh.2⟩⟩
    have HF' : Hd (∀ w1, Tbl w1 ax X ay Y → Calls Try.prog 12 #[.agg #[.int .i64 kind, .slice ax X.length cx, .slice ay Y.length cy], .int .i64 x] w1 fun e w' => ∃ v, e = .returned (.tuple #[.int .i64 v, .int .i64 E]) ∧ Below w1.heap.size w1 w') := ⟨fun w1 h => (HF.out w1 h).mono fun e w' hh => ⟨(fdT kind X Y x).1, by rw [hh.1, hE], hh.2⟩⟩
    obtain ⟨E', hE'⟩ : ∃ E', E' = E := ⟨_, rfl⟩
    have d2 : (E' != E) = false := by rw [hE']; simp
    have d3 : (E' != 0) = true := by rw [hE']; exact d1
    rw [← hE'] at HA'
    clear h0 hat hE HA HF ht b1 b2 d1 hE'
    obtain ⟨y0, y1, y2⟩ := B1.out.cell
    generalize X.length = n at *
    generalize Y.length = m at *
    go_enter Try.func5, Try.ntmps5
    go_upto_region 1 with fail
    clear hW
    go_wp2_with fail
    refine (HA'.out _ T.out).mono ?_; rintro e w1 ⟨v1, rfl, hb⟩
    have T1 := Hd.mk (T.out.belowK hb)
    have U1 := Hd.mk (B1.out.below hb)
    have C1 := Hd.mk (B2.out.trans (hb.mono B2.out.size))
    clear hb y0 y1 y2
    obtain ⟨y0, y1, y2⟩ := U1.out.cell
    go_wp2_with fail
    refine (HF'.out _ T1.out).mono ?_; rintro e w2 ⟨v2, rfl, hb⟩
    have C2 := Hd.mk (C1.out.trans (hb.mono C1.out.size))
    clear hb y0 y1 y2
    go_wp2_with fail
    refine (awake10_any _).mono ?_; rintro e w3 ⟨rfl, hb⟩
    have C3 := Hd.mk (C2.out.trans (hb.mono C2.out.size))
    clear hb
    go_wp2_with fail
    go_ret
    exact ⟨rfl, C3.out⟩
  · obtain ⟨hc, l1, l2, hfd⟩ := fd_zero h0
    obtain ⟨ok, kl, kh, k4⟩ := chk_ok hc ht.fy.wf
    have hv := at_vl hc l1 l2
    obtain ⟨vw, vn, vk, vb⟩ := vl_bd ok kl kh k4 l1 l2
    rw [hv] at HA
    rw [hfd] at HF
    have nmax := ok.max
    have lyx := ok.ly
    have nk := nn_fin _ (ok.fn _ vk)
    have wk := ok.wf (fndT X x)
    have HT2 := Hd.mk ht.fy
    generalize vlT kind X Y x = V at *
    obtain ⟨k, hkk⟩ : ∃ k, fndT X x = k := ⟨_, rfl⟩
    rw [hkk] at HF vk vb nk wk
    unfold AtRet at HA
    dsimp only at HA HF
    by_cases hk1 : k + 1 < X.length
    · have nk1 := nn_fin _ (ok.fn _ hk1)
      have wk1 := ok.wf (k + 1)
      obtain ⟨lo, hlo, lw, ln, lr⟩ := fmin_run (Y.getD k 0) (Y.getD (k + 1) 0) wk wk1 nk nk1
      obtain ⟨hi, hhi, hw, hn, hr⟩ := fmax_run (Y.getD k 0) (Y.getD (k + 1) 0) wk wk1 nk nk1
      have bd : rk lo ≤ rk V ∧ rk V ≤ rk hi := by
        rcases vb with ⟨_, e⟩ | ⟨_, a, b⟩
        · rw [e]; omega
        · omega
      have q1 := leB lo V lw vw ln vn true (by simp; exact bd.1)
      have q2 := leB V hi vw hw vn hn true (by simp; exact bd.2)
      have hmin := hlo Try.prog
      have hmax := hhi Try.prog
      obtain ⟨by_, oy, hay, c1⟩ := T.out.fy.at k (by omega)
      obtain ⟨by', oy', hay', c2⟩ := T.out.fy.at (k + 1) (by omega)
      rw [hay] at hay'
      cases hay'
      subst hay
      have E1 := Hd.mk c1
      have E2 := Hd.mk c2
      clear b1 b2 ht hc l1 l2 hfd kl kh k4 hv vw vn vb nk wk nk1 wk1 hlo lw ln lr hhi hw hn hr bd hat h0 hkk c1 c2 ok
      generalize Y.getD k 0 = ya at *
      generalize Y.getD (k + 1) 0 = yb at *
      rw [lyx] at *
      generalize X.length = n at *
      have k0 : (0 : Int) ≤ k := by omega
      have k1 : (k : Int) + 1 < n := by omega
      have k2 : (k : Int) < n := by omega
      have k3 : (n : Int) ≤ 256 := by omega
      have k5 : (0 : Int) ≤ (k : Int) + 1 := by omega
      have k6 : ((k : Int) + 1).toNat = k + 1 := by omega
      have d1 : decide ((k : Int) < 0) = false := by simp
      have d2 : decide ((k : Int) ≥ n) = false := by simp; omega
      have d3 : decide (n ≤ k) = false := by simp; omega
      have d4 : decide ((k : Int) + 1 < n) = true := by simp; omega
      obtain ⟨y0, y1, y2⟩ := B1.out.cell
      clear vk hk1 nmax lyx
      go_enter Try.func5, Try.ntmps5
      go_upto_region 1 with fail
      clear hW
      go_wp2_with fail
      refine (HA.out _ T.out).mono ?_; rintro e w1 ⟨rfl, hb⟩
      have T1 := Hd.mk (T.out.belowK hb)
      have U1 := Hd.mk (B1.out.below hb)
      have C1 := Hd.mk (B2.out.trans (hb.mono B2.out.size))
      have D1 := Hd.mk (cell_of_below hb (Nat.le_refl _) E1.out)
      have D2 := Hd.mk (cell_of_below hb (Nat.le_refl _) E2.out)
      clear hb y0 y1 y2
      obtain ⟨y0, y1, y2⟩ := U1.out.cell
      go_wp2_with fail
      refine (HF.out _ T1.out).mono ?_; rintro e w2 ⟨rfl, hb⟩
      have C2 := Hd.mk (C1.out.trans (hb.mono C1.out.size))
      have g1 := cell_of_below hb (Nat.le_refl _) D1.out
      have g2 := cell_of_below hb (Nat.le_refl _) D2.out
      have U2 := Hd.mk (U1.out.below hb)
      clear hb y0 y1 y2
      obtain ⟨y0, y1, y2⟩ := U2.out.cell
      go_wp2_with fail
      refine (awake10_any _).mono ?_; rintro e w3 ⟨rfl, hb⟩
      have C3 := Hd.mk (C2.out.trans (hb.mono C2.out.size))
      clear hb
      go_wp2_with fail
      go_ret
      exact ⟨rfl, C3.out⟩
    · have eV : V = Y.getD k 0 := by
        rcases vb with ⟨_, e⟩ | ⟨g, _⟩
        · exact e
        · exact absurd g hk1
      have q1 := leB (Y.getD k 0) V wk vw nk vn true (by rw [eV]; simp)
      have q2 := leB V (Y.getD k 0) vw wk vn nk true (by rw [eV]; simp)
      obtain ⟨by_, oy, hay, c1⟩ := T.out.fy.at k (by omega)
      subst hay
      have E1 := Hd.mk c1
      clear b1 b2 ht hc l1 l2 hfd kl kh k4 hv vw vn vb nk wk hat h0 hkk c1 ok eV
      generalize Y.getD k 0 = ya at *
      rw [lyx] at *
      generalize X.length = n at *
      have k0 : (0 : Int) ≤ k := by omega
      have k2 : (k : Int) < n := by omega
      have k3 : (n : Int) ≤ 256 := by omega
      have d1 : decide ((k : Int) < 0) = false := by simp
      have d2 : decide ((k : Int) ≥ n) = false := by simp; omega
      have d3 : decide (n ≤ k) = false := by simp; omega
      have d4 : decide ((k : Int) + 1 < n) = false := by simp; omega
      obtain ⟨y0, y1, y2⟩ := B1.out.cell
      clear vk hk1 nmax lyx
      go_enter Try.func5, Try.ntmps5
      go_upto_region 1 with fail
      clear hW
      go_wp2_with fail
      refine (HA.out _ T.out).mono ?_; rintro e w1 ⟨rfl, hb⟩
      have T1 := Hd.mk (T.out.belowK hb)
      have U1 := Hd.mk (B1.out.below hb)
      have C1 := Hd.mk (B2.out.trans (hb.mono B2.out.size))
      have D1 := Hd.mk (cell_of_below hb (Nat.le_refl _) E1.out)
      clear hb y0 y1 y2
      obtain ⟨y0, y1, y2⟩ := U1.out.cell
      go_wp2_with fail
      refine (HF.out _ T1.out).mono ?_; rintro e w2 ⟨rfl, hb⟩
      have C2 := Hd.mk (C1.out.trans (hb.mono C1.out.size))
      have g1 := cell_of_below hb (Nat.le_refl _) D1.out
      have U2 := Hd.mk (U1.out.below hb)
      clear hb y0 y1 y2
      obtain ⟨y0, y1, y2⟩ := U2.out.cell
      go_wp2_with fail
      refine (awake10_any _).mono ?_; rintro e w3 ⟨rfl, hb⟩
      have C3 := Hd.mk (C2.out.trans (hb.mono C2.out.size))
      clear hb
      go_wp2_with fail
      go_ret
      exact ⟨rfl, C3.out⟩

end Go.Proofs.Ytmmcnjoeepgpgaa
