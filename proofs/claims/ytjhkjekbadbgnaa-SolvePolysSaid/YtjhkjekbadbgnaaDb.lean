/- The walks of the reference's Len, CmpDigits, SubDigits. -/
import Derived.Test.YtjhkjekbadbgnaaDa
import Derived.Test.YtjhkjekbadbgnaaDp
namespace Go.Proofs.Ytjhkjekbadbgnaa
open Go.RowKit
set_option linter.unusedSimpArgs false
set_option linter.unusedVariables false

set_option maxHeartbeats 1600000 in
theorem len_any (a : Option Addr) (x c : Nat) (w : World) (h : Dgs w a x) (hs : nd x ≤ 536870912) :
    Calls Try.prog 71 #[.slice a (nd x) c] w fun e w' => e = .returned (.int .i64 (bl x)) ∧ w = w' := by
  by_cases h0 : x = 0
  · subst h0
    have hn : nd 0 = 0 := rfl
    rw [hn]
    clear h hs hn
    go_enter Try.func71, Try.ntmps71
    go_wp2
    go_ret
    exact ⟨rfl, rfl⟩
  · have hp := nd_pos h0
    obtain ⟨b, o, rfl⟩ := h.some hp
    have hc := (h.cell b o none rfl (nd x - 1) (by omega)).2
    have d0 : ((nd x : Int) == 0) = false := by rw [beq_eq_false_iff_ne]; omega
    have HT := Hd.mk (bl_top h0)
    have l1 := dg_lt x (nd x - 1)
    clear h
    generalize nd x = N at *
    generalize dg x (N - 1) = d at *
    clear h0
    go_enter Try.func71, Try.ntmps71
    go_wp2
    go_loop [3, 4] (fun n v => ∃ (k u : Nat), n = .int .i64 k ∧ v = .int .u64 u ∧ u < 4294967296 ∧ k ≤ 17179869184 + 32 ∧ Hd (k + bl u = bl x) ∧ k + bl u ≤ 17179869184 + 32) (fun _ v => (intOf v).toNat)
    case atStart =>
      have e : (32 * ((N : Int) - 1)) = ((32 * (N - 1) : Nat) : Int) := by omega
      have := bl_le (x := d) (n := 32) l1
      exact ⟨32 * (N - 1), d, by rw [e], rfl, l1, by omega, ⟨HT.out.symm⟩, by omega⟩
    case round =>
      obtain ⟨k, u, rfl, rfl, hu, hk, HE, hk2⟩ := hrel
      by_cases hz : u = 0
      · subst hz
        have H := Hd.mk (show (k : Int) = bl x by have := HE.out; rw [show bl 0 = 0 from rfl] at this; omega)
        go_wp2
        go_ret
        exact ⟨ret_int H.out, rfl⟩
      · have H := Hd.mk (bl_half hz)
        have hz' : (0 : Int) < u := by omega
        have hk3 : k + 1 ≤ 17179869184 + 32 := by have := bl_half hz; omega
        go_wp2
        refine ⟨⟨k + 1, u / 2, by go_num, rfl, by omega, by omega, ⟨by have := HE.out; rw [H.out] at this; omega⟩, by have := H.out; omega⟩, by simp [intOf]; omega⟩

set_option maxHeartbeats 1600000 in
theorem cmpDigits_any (a : Option Addr) (x c : Nat) (a' : Option Addr) (y c' : Nat) (w : World) (h : Dgs w a x) (h' : Dgs w a' y) (hs : nd x ≤ 536870912) (hs' : nd y ≤ 536870912) :
    Calls Try.prog 105 #[.slice a (nd x) c, .slice a' (nd y) c'] w fun e w' => ∃ k, e = .returned (.int .i64 (cmpN x y)) ∧ w' = w.drewN k := by
  by_cases e1 : nd x < nd y
  · have H : Hd (-1 = cmpN x y) := ⟨by unfold cmpN; rw [if_pos (cmp_nd e1)]⟩
    have d1 : ((nd x : Int) != nd y) = true := by rw [bne_iff_ne]; omega
    clear h h'
    go_enter Try.func105, Try.ntmps105
    go_wp2
    go_ret
    exact ⟨0, ret_int H.out, rfl⟩
  by_cases e2 : nd y < nd x
  · have H : Hd (1 = cmpN x y) := ⟨by have := cmp_nd e2; unfold cmpN; rw [if_neg (by omega), if_pos this]⟩
    have d1 : ((nd x : Int) != nd y) = true := by rw [bne_iff_ne]; omega
    clear h h'
    go_enter Try.func105, Try.ntmps105
    go_wp2
    go_ret
    exact ⟨0, ret_int H.out, rfl⟩
  have e3 : nd y = nd x := by omega
  obtain ⟨N, hN⟩ : ∃ N, nd x = N := ⟨_, rfl⟩
  rw [e3, hN]
  have HN := Hd.mk hN
  have HE := Hd.mk e3
  have hs2 : N ≤ 536870912 := by omega
  have H := Hd.mk h
  have H' := Hd.mk h'
  have d1 : ((N : Int) != N) = false := by simp
  clear h h' hs hs' e1 e2 e3 hN
  go_enter Try.func105, Try.ntmps105
  go_wp2
  go_loopw [5] (fun v wr => ∃ (m k : Nat), m ≤ N ∧ v = .int .i64 ((m : Int) - 1) ∧ Hd (x / BB ^ m = y / BB ^ m) ∧ wr = w.drewN k) (fun v _ => (intOf v + 1).toNat)
  case atStart => exact ⟨N, 0, Nat.le_refl _, rfl, ⟨by rw [Nat.div_eq_of_lt (by have := lt_nd x; rw [HN.out] at this; exact this), Nat.div_eq_of_lt (by have := lt_nd y; rw [HE.out, HN.out] at this; exact this)]⟩, rfl⟩
  case round =>
    obtain ⟨m, k, hm, rfl, HV, rfl⟩ := hrel
    by_cases h0 : m = 0
    · subst h0
      have hz : Hd (0 = cmpN x y) := ⟨by
        have := HV.out; simp at this; subst this
        unfold cmpN; rw [if_neg (by omega), if_neg (by omega)]⟩
      go_wp2
      go_ret
      exact ⟨k, ret_int hz.out, rfl⟩
    · obtain ⟨i, rfl⟩ : ∃ i, m = i + 1 := ⟨m - 1, by omega⟩
      clear h0
      obtain ⟨b, o, rfl⟩ := H.out.some (by rw [HN.out]; omega)
      obtain ⟨b', o', rfl⟩ := H'.out.some (by rw [HE.out, HN.out]; omega)
      have c1 := (H.out.cell b o none rfl i (by rw [HN.out]; omega)).2
      have c2 := (H'.out.cell b' o' none rfl i (by rw [HE.out, HN.out]; omega)).2
      have i0 : (0 : Int) ≤ i := by omega
      have i1 : (i : Int) < N := by omega
      by_cases g1 : dg x i < dg y i
      · have R := Hd.mk (cmp_step_lt HV.out g1)
        have G1 : decide (dg x i < dg y i) = true := by simp; omega
        clear g1
        go_wp2_with fail
        go_quiet (fail)
        go_wp2
        go_ret
        exact ⟨_, ret_int (by unfold cmpN; rw [if_pos R.out]), by rw [World.drewN_drewN]⟩
      · by_cases g2 : dg y i < dg x i
        · have R := Hd.mk (cmp_step_lt HV.out.symm g2)
          have G1 : decide (dg x i < dg y i) = false := by simp; omega
          have G2 : decide (dg y i < dg x i) = true := by simp; omega
          clear g1 g2
          go_wp2_with fail
          go_quiet (fail)
          go_wp2_with fail
          go_quiet (fail)
          go_wp2
          go_ret
          exact ⟨_, ret_int (by unfold cmpN; rw [if_neg (by have := R.out; omega), if_pos R.out]), by rw [World.drewN_drewN, World.drewN_drewN]⟩
        · have R := Hd.mk (cmp_step_eq HV.out (by omega : dg x i = dg y i))
          have G1 : decide (dg x i < dg y i) = false := by simp; omega
          have G2 : decide (dg y i < dg x i) = false := by simp; omega
          clear g1 g2
          go_wp2_with fail
          go_quiet (fail)
          go_wp2_with fail
          go_quiet (fail)
          go_wp2
          refine ⟨⟨i, _, by omega, by congr 1, R, rfl⟩, by simp [intOf]⟩

end Go.Proofs.Ytjhkjekbadbgnaa
