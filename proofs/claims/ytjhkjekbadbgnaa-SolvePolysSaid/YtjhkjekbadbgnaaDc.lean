/- The walk of the reference's SubDigits. -/
import Derived.Test.YtjhkjekbadbgnaaDb
namespace Go.Proofs.Ytjhkjekbadbgnaa
open Go.RowKit
set_option linter.unusedSimpArgs false
set_option linter.unusedVariables false

theorem Dgs.drewN {w : World} {a : Option Addr} {x : Nat} (h : Dgs w a x) (n : Nat) : Dgs (w.drewN n) a x := h.keep fun _ _ _ hc => hc

/-- Borrow's arithmetic, as the walk tells it. -/
theorem sub_digit (p q b : Nat) (hp : p < 4294967296) (hq : q < 4294967296) (hb : b ≤ 1) :
    (p : Int) + 4294967296 - q - b = ((p + BB - q - b : Nat) : Int) ∧ p + BB - q - b < 8589934592 := by
  show (p : Int) + 4294967296 - q - b = ((p + 4294967296 - q - b : Nat) : Int) ∧ p + 4294967296 - q - b < 8589934592
  omega

set_option maxHeartbeats 1600000 in
theorem subDigits_any (a : Option Addr) (x c : Nat) (a' : Option Addr) (y c' : Nat) (w : World) (h : Dgs w a x) (h' : Dgs w a' y) (hs : nd x ≤ 536870912) (hs' : nd y ≤ 536870912) (hxy : y ≤ x) :
    Calls Try.prog 106 #[.slice a (nd x) c, .slice a' (nd y) c'] w (DRet (x - y) w) := by
  obtain ⟨N, hN⟩ : ∃ N, nd x = N := ⟨_, rfl⟩
  have hmk : ∀ w, (Instr.makeSlice 32 (.int .i64 (N : Int)) (.int .i64 (N : Int))).run Try.prog w = .ok (.slice (some ⟨w.heap.size, 0, none⟩) N N) (w.alloc (.cells (madeCells #[.int .u64 0] N) 28)) := fun w => make_u64 N (by omega) w
  have H := Hd.mk h
  have H' := Hd.mk h'
  have HN := Hd.mk hN
  have HXY := Hd.mk hxy
  have hnn : N ≤ 536870912 := by omega
  rw [hN]
  clear h h' hN hs hxy
  go_enter Try.func106, Try.ntmps106
  go_wp2_with fail
  have F0 := Hd.mk (Filled.made w N)
  generalize (w.alloc (.cells (madeCells #[.int .u64 0] N) 28)) = w1 at *
  generalize hb : w.heap.size = b at *
  have HB := Hd.mk hb
  clear hb hmk
  go_loopw [6, 7] (fun cv i wr => ∃ (k cr : Nat) (f : Nat → Nat), k ≤ N ∧ i = .int .i64 k ∧ cv = .int .u64 cr ∧ cr ≤ 1 ∧ Hd (Filled w wr b N f) ∧ Hd (∀ j, j < k → f j = dg (x - y) j) ∧ Hd (x % BB ^ k + cr * BB ^ k = (x - y) % BB ^ k + y % BB ^ k)) (fun _ i _ => N - (intOf i).toNat)
  case atStart => exact ⟨0, 0, _, Nat.zero_le _, rfl, rfl, by decide, F0, ⟨fun j hj => by omega⟩, ⟨by simp [Nat.mod_one]⟩⟩
  case round =>
    clear F0
    obtain ⟨k, cr, f, hk, rfl, rfl, hcr, HF, HD, HC⟩ := hrel
    have G := Hd.mk (H.out.below (HF.out.below))
    have G' := Hd.mk (H'.out.below (HF.out.below))
    by_cases hlt : k < N
    · have hlt' : (k : Int) < (N : Int) := by omega
      have k0 : (0 : Int) ≤ k := by omega
      have l1 := dg_lt x k
      have l2 := dg_lt y k
      have row := HF.out.row.cell hlt
      have frz := HF.out.row.frozen k
      obtain ⟨b', o', rfl⟩ := H.out.some (by rw [HN.out]; omega)
      have c1 := (G.out.cell b' o' none rfl k (by rw [HN.out]; omega)).2
      obtain ⟨e1, e2⟩ := sub_digit (dg x k) (dg y k) cr l1 l2 hcr
      obtain ⟨s1, s2, s3, s4⟩ := sub_step x y cr k HXY.out hcr HC.out
      have S4 := Hd.mk s4
      have S1 := Hd.mk s1
      clear s1 s4
      go_wp2_with fail
      go_quiet ((go_at_call 87; exact Calls.quiet_of_same ((digit_any a' y c' k _ (G'.out.drewN _) (by omega)).mono fun _ _ h => ⟨h.1, h.2.symm⟩)))
      go_wp2_with fail
      have v1 : ((dg x k + BB - dg y k - cr : Nat) : Int) % 4294967296 = ((dg (x - y) k : Nat) : Int) := by rw [← S1.out]; rfl
      have v2 : 1 - ((dg x k + BB - dg y k - cr : Nat) : Int) / 4294967296 = ((1 - (dg x k + BB - dg y k - cr) / BB : Nat) : Int) := by
        rw [show ((dg x k + BB - dg y k - cr : Nat) : Int) / 4294967296 = (((dg x k + BB - dg y k - cr) / BB : Nat) : Int) from rfl]
        generalize (dg x k + BB - dg y k - cr) / BB = q at *
        omega
      rw [v1, v2]
      refine ⟨⟨k + 1, _, _, by omega, by go_num, rfl, s2, ⟨(HF.out.drewN nq).set k _ (dg_lt _ _)⟩, ⟨fun j hj => ?_⟩, S4⟩, by simp [intOf]; omega⟩
      unfold upd
      by_cases e : j = k
      · rw [if_pos e, e]
      · rw [if_neg e]; exact HD.out j (by omega)
    · obtain rfl : k = N := by omega
      have hz : vl k f = x - y := by
        rw [vl_congr HD.out, vl_dg]
        refine Nat.mod_eq_of_lt ?_
        have h1 : x < BB ^ k := Nat.lt_of_lt_of_le (lt_nd x) (Nat.pow_le_pow_right (by decide) (by have := HN.out; omega))
        omega
      go_wp2_with fail
      refine (trim_row b k k (x - y) f _ (by omega) (Nat.le_refl _) (fun j _ => HF.out.dig j) hz HF.out.row).mono ?_
      have HZ := Hd.mk hz
      clear hz
      rintro e w' ⟨q, rfl, rfl⟩
      go_wp2_with fail
      go_ret
      exact filled_ret (HF.out.drewN q) HZ.out (Nat.le_refl _)

end Go.Proofs.Ytjhkjekbadbgnaa
