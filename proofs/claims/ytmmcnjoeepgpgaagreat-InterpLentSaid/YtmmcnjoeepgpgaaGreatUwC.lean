/- The walk of the reference's Find (tenorref10). -/
import Derived.Test.YtmmcnjoeepgpgaaGreatUvC
import Derived.Test.YtmmcnjoeepgpgaaGreatM12
namespace Go.Proofs.YtmmcnjoeepgpgaaGreat
open Go.RowKit
set_option linter.unusedSimpArgs false
set_option linter.unusedVariables false

/-- What the reference's Check answers. -/
def CheckR (kind : Int) (ax : Option Addr) (X : List Int) (cx : Nat) (au : Option Addr) (Y : List Nat) (cu : Nat) : Prop := ∀ w, TblR w ax X au Y →
    Calls Tryz.prog 30 #[.agg #[.int .i64 kind, .slice ax X.length cx, .slice au Y.length cu]] w fun e w' => e = .returned (.int .i64 (chkT kind X Y)) ∧ Below w.heap.size w w'

set_option maxHeartbeats 3200000 in
set_option maxRecDepth 100000 in
theorem find10r_of {kind : Int} {ax : Option Addr} {X : List Int} {cx : Nat} {au : Option Addr} {Y : List Nat} {cu : Nat} (hCk : CheckR kind ax X cx au Y cu) (x : Int) (w : World) (ht : TblR w ax X au Y) :
    Calls Tryz.prog 22 #[.agg #[.int .i64 kind, .slice ax X.length cx, .slice au Y.length cu], .int .i64 x] w fun e w' => e = .returned (.tuple #[.int .i64 (fdT kind X Y x).1, .int .i64 (fdT kind X Y x).2]) ∧ Below w.heap.size w w' := by
  have HCk := Hd.mk hCk
  unfold CheckR at HCk
  by_cases hc : chkT kind X Y = 0
  rotate_left
  · have hr : fdT kind X Y x = (0, chkT kind X Y) := by unfold fdT; rw [if_neg hc]
    rw [hr]
    have d1 : (chkT kind X Y != 0) = true := by rw [bne_iff_ne]; exact hc
    dsimp only
    generalize chkT kind X Y = E at *
    generalize X.length = n at *
    generalize Y.length = m at *
    obtain ⟨W, hW, b1, b2⟩ := box_r w kind ax n cx au m cu
    obtain ⟨y0, y1, y2⟩ := b1.cell
    have B2 := Hd.mk b2
    have T := Hd.mk (ht.belowK b2)
    clear b1 b2 ht hc hr hCk
    go_enter Tryz.func22, Tryz.ntmps22
    go_upto_region 1 with fail
    clear hW
    go_wp2_with fail
    refine (HCk.out _ T.out).mono ?_; rintro e w1 ⟨rfl, hb⟩
    have B3 := Hd.mk (B2.out.trans (hb.mono B2.out.size))
    clear hb
    go_wp2_with fail
    go_ret2
    exact ⟨rfl, B3.out⟩
  have ok := (chk_ok hc (ht.uy (chk_le hc)).wf).1
  rw [hc] at HCk
  have nmax := ok.max
  have npos := ok.pos
  have HOK := Hd.mk ok
  have hf0 : fdT kind X Y x = if x < X.getD 0 0 ∨ lastT X < x then (0, 51) else (((fndT X x : Nat) : Int), 0) := by unfold fdT; rw [if_pos hc]
  obtain ⟨n, hn⟩ : ∃ n, X.length = n := ⟨_, rfl⟩
  have hlast : lastT X = X.getD (n - 1) 0 := by unfold lastT; rw [hn]
  rw [hlast] at hf0
  rw [hn] at HCk HOK nmax npos ⊢
  obtain ⟨W, hW, b1, b2⟩ := box_r w kind ax n cx au Y.length cu
  obtain ⟨y0, y1, y2⟩ := b1.cell
  have B1 := Hd.mk b1
  have B2 := Hd.mk b2
  have T := Hd.mk (ht.belowK b2)
  obtain ⟨m, hm⟩ : ∃ m, Y.length = m := ⟨_, rfl⟩
  rw [hm] at HCk B1 y2 hW b1 ⊢
  clear b1 b2 ht hc ok hCk hlast hm
  have wr1 : IntKind.i64.wrap ((n : Int) - 1) = (n : Int) - 1 := IntWalk.i64_in _ (by omega)
  have wr2 : ((n : Int) - 1).toNat = n - 1 := by omega
  have n0 : (1 : Int) ≤ n := by omega
  have n1 : (n : Int) ≤ 256 := by omega
  have n2 : 0 < n := by omega
  have n3 : (0 : Int) ≤ (n : Int) - 1 := by omega
  have n4 : (n : Int) - 1 < n := by omega
  have n5 : (0 : Int) < n := by omega
  obtain ⟨bx, ox, hax, c1⟩ := T.out.ix.at 0 (by omega)
  obtain ⟨bx', ox', hax', c2⟩ := T.out.ix.at (n - 1) (by omega)
  rw [hax] at hax'
  cases hax'
  subst hax
  rw [Nat.add_zero] at c1
  by_cases h0 : x < X.getD 0 0
  · rw [if_pos (.inl h0)] at hf0
    rw [hf0]
    have d0 := decide_eq_true h0
    dsimp only
    generalize X.getD 0 0 = x0 at *
    generalize X.getD (n - 1) 0 = xl at *
    clear h0 hf0 hn
    go_enter Tryz.func22, Tryz.ntmps22
    go_upto_region 1 with fail
    clear hW
    go_wp2_with fail
    refine (HCk.out _ T.out).mono ?_; rintro e w1 ⟨rfl, hb⟩
    have B3 := Hd.mk (B2.out.trans (hb.mono B2.out.size))
    obtain ⟨z0, z1, z2⟩ := (B1.out.below hb).cell
    have e1 : w1.cell? ⟨bx, ox, none⟩ = some (.int .i64 x0) := cell_of_below hb (Nat.le_refl _) c1
    have e2 : w1.cell? ⟨bx, ox + (n - 1), none⟩ = some (.int .i64 xl) := cell_of_below hb (Nat.le_refl _) c2
    clear hb y0 y1 y2 c1 c2
    go_wp2_with fail
    go_ret2
    exact ⟨rfl, B3.out⟩
  by_cases h1 : X.getD (n - 1) 0 < x
  · rw [if_pos (.inr h1)] at hf0
    rw [hf0]
    have d0 := decide_eq_false h0
    have d1 : decide (x > X.getD (n - 1) 0) = true := decide_eq_true h1
    dsimp only
    generalize X.getD 0 0 = x0 at *
    generalize X.getD (n - 1) 0 = xl at *
    clear h0 h1 hf0 hn
    go_enter Tryz.func22, Tryz.ntmps22
    go_upto_region 1 with fail
    clear hW
    go_wp2_with fail
    refine (HCk.out _ T.out).mono ?_; rintro e w1 ⟨rfl, hb⟩
    have B3 := Hd.mk (B2.out.trans (hb.mono B2.out.size))
    obtain ⟨z0, z1, z2⟩ := (B1.out.below hb).cell
    have e1 : w1.cell? ⟨bx, ox, none⟩ = some (.int .i64 x0) := cell_of_below hb (Nat.le_refl _) c1
    have e2 : w1.cell? ⟨bx, ox + (n - 1), none⟩ = some (.int .i64 xl) := cell_of_below hb (Nat.le_refl _) c2
    clear hb y0 y1 y2 c1 c2
    go_wp2_with fail
    go_ret2
    exact ⟨rfl, B3.out⟩
  rw [if_neg (by omega)] at hf0
  have HR : Hd (∀ k : Nat, fndT X x = k → fdT kind X Y x = ((k : Int), 0)) := ⟨fun k e => by rw [hf0, e]⟩
  have HX0 := Hd.mk (show X.getD 0 0 ≤ x by omega)
  have d0 := decide_eq_false h0
  have d1 : decide (x > X.getD (n - 1) 0) = false := decide_eq_false h1
  obtain ⟨R1, R2, hR⟩ : ∃ R1 R2, fdT kind X Y x = (R1, R2) := ⟨_, _, rfl⟩
  rw [hR] at HR ⊢
  dsimp only
  obtain ⟨x0, hx0⟩ : ∃ x0, X.getD 0 0 = x0 := ⟨_, rfl⟩
  obtain ⟨xl, hxl⟩ : ∃ xl, X.getD (n - 1) 0 = xl := ⟨_, rfl⟩
  rw [hx0] at c1 d0
  rw [hxl] at c2 d1
  clear h0 h1 hf0 hR hx0 hxl hn
  go_enter Tryz.func22, Tryz.ntmps22
  go_upto_region 1 with fail
  clear hW
  go_wp2_with fail
  refine (HCk.out _ T.out).mono ?_; rintro e w1 ⟨rfl, hb⟩
  have B3 := Hd.mk (B2.out.trans (hb.mono B2.out.size))
  have T1 := Hd.mk (T.out.belowK hb)
  obtain ⟨z0, z1, z2⟩ := (B1.out.below hb).cell
  have e1 : w1.cell? ⟨bx, ox, none⟩ = some (.int .i64 x0) := cell_of_below hb (Nat.le_refl _) c1
  have e2 : w1.cell? ⟨bx, ox + (n - 1), none⟩ = some (.int .i64 xl) := cell_of_below hb (Nat.le_refl _) c2
  clear hb y0 y1 y2 c1 c2
  go_wp2_with fail
  clear d0 d1 e1 e2
  go_loop [7] (fun iv => ∃ (k : Nat), k + 1 ≤ n ∧ iv = .int .i64 k ∧ Hd (X.getD k 0 ≤ x)) (fun iv => n - (intOf iv).toNat)
  case atStart => exact ⟨0, n2, rfl, HX0⟩
  case round =>
    obtain ⟨k, hk, rfl, HK⟩ := hrel
    have k0 : (0 : Int) ≤ k := by omega
    have wk1 : IntKind.i64.wrap ((k : Int) + 1) = (k : Int) + 1 := IntWalk.i64_in _ (by omega)
    have wk2 : ((k : Int) + 1).toNat = k + 1 := by omega
    have k1 : (0 : Int) ≤ (k : Int) + 1 := by omega
    by_cases hlt : k + 1 < n
    · have hlt' : (k : Int) + 1 < n := by omega
      have d2 := decide_eq_true hlt'
      obtain ⟨bx', ox', hax', c1⟩ := T1.out.ix.at (k + 1) (by rw [HOK.out.lx]; exact hlt)
      cases hax'
      by_cases hle : X.getD (k + 1) 0 ≤ x
      · have d3 := decide_eq_true hle
        have HK' := Hd.mk hle
        obtain ⟨xk, hxk⟩ : ∃ xk, X.getD (k + 1) 0 = xk := ⟨_, rfl⟩
        rw [hxk] at c1 d3 hle
        clear hxk
        clear hlt
        go_wp2_with fail
        exact ⟨⟨k + 1, by omega, by go_num, HK'⟩, by simp [intOf]; omega⟩
      · have d3 := decide_eq_false hle
        have HE := Hd.mk (HR.out k (fnd_is HOK.out (by omega) HK.out (fun _ => by omega)))
        generalize X.getD (k + 1) 0 = xk at *
        clear hlt
        go_wp2_with fail
        go_ret2
        have he := HE.out
        simp only [Prod.mk.injEq] at he
        exact ⟨by rw [he.1, he.2]; rfl, B3.out⟩
    · have d2 : decide ((k : Int) + 1 < n) = false := by simp; omega
      have hlt' : ¬ (k : Int) + 1 < n := by omega
      have HE := Hd.mk (HR.out k (fnd_is HOK.out (by omega) HK.out (fun h => absurd h hlt)))
      clear hlt
      go_wp2_with fail
      go_ret2
      have he := HE.out
      simp only [Prod.mk.injEq] at he
      exact ⟨by rw [he.1, he.2]; rfl, B3.out⟩

end Go.Proofs.YtmmcnjoeepgpgaaGreat
