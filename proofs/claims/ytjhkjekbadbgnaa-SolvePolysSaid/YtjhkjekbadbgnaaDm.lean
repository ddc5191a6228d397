/- The walk of the reference's MulDigits. -/
import Derived.Test.YtjhkjekbadbgnaaDc
namespace Go.Proofs.Ytjhkjekbadbgnaa
open Go.RowKit
set_option linter.unusedSimpArgs false
set_option linter.unusedVariables false

/-- A step of the inner loop. -/
theorem mul_step (V V' A g d c y i k : Nat) (h : V + c * BB ^ (i + k) = A + d * BB ^ i * (y % BB ^ k))
    (hu : V' + g * BB ^ (i + k) = V + (g + d * dg y k + c) % BB * BB ^ (i + k)) :
    V' + (g + d * dg y k + c) / BB * BB ^ (i + (k + 1)) = A + d * BB ^ i * (y % BB ^ (k + 1)) := by
  rw [mod_succ]
  have e := Nat.div_add_mod (g + d * dg y k + c) BB
  have e1 : BB ^ (i + (k + 1)) = BB * BB ^ (i + k) := by rw [← Nat.add_assoc, Nat.pow_succ, Nat.mul_comm]
  have e2 : d * BB ^ i * (y % BB ^ k + dg y k * BB ^ k) = d * BB ^ i * (y % BB ^ k) + d * dg y k * BB ^ (i + k) := by
    rw [Nat.mul_add, Nat.pow_add]
    congr 1
    simp only [Nat.mul_assoc, Nat.mul_comm, Nat.mul_left_comm]
  rw [e1, e2]
  generalize dg y k = f at *
  generalize (g + d * f + c) % BB = r at *
  generalize (g + d * f + c) / BB = q at *
  generalize BB ^ (i + k) = Q at *
  have e3 : (BB * q + r) * Q = (g + d * f + c) * Q := by rw [e]
  rw [Nat.add_mul, Nat.add_mul, Nat.add_mul] at e3
  rw [show q * (BB * Q) = BB * q * Q by simp only [Nat.mul_assoc, Nat.mul_comm, Nat.mul_left_comm]]
  generalize BB * q * Q = z at *
  omega

/-- The inner loop's sum fits. -/
theorem mul_fits (g d e c : Nat) (hg : g < 4294967296) (hd : d < 4294967296) (he : e < 4294967296) (hc : c < 4294967296) : d * e ≤ 18446744065119617025 ∧ g + d * e + c < 18446744073709551616 ∧ (g + d * e + c) / BB < 4294967296 := by
  have h1 : d * e ≤ 4294967295 * 4294967295 := Nat.mul_le_mul (by omega) (by omega)
  generalize d * e = p at *
  refine ⟨by omega, by omega, ?_⟩
  show (g + p + c) / 4294967296 < 4294967296
  omega

set_option maxHeartbeats 4000000 in
set_option maxRecDepth 100000 in
theorem mulDigits_any (a : Option Addr) (x c : Nat) (a' : Option Addr) (y c' : Nat) (w : World) (h : Dgs w a x) (h' : Dgs w a' y) (hs : nd x ≤ 536870912) (hs' : nd y ≤ 536870912) :
    Calls Try.prog 107 #[.slice a (nd x) c, .slice a' (nd y) c'] w (DRet (x * y) w) := by
  obtain ⟨N, hN⟩ : ∃ N, nd x = N := ⟨_, rfl⟩
  obtain ⟨M, hM⟩ : ∃ M, nd y = M := ⟨_, rfl⟩
  have hmk : ∀ w, (Instr.makeSlice 32 (.int .i64 ((N : Int) + M + 1)) (.int .i64 ((N : Int) + M + 1))).run Try.prog w = .ok (.slice (some ⟨w.heap.size, 0, none⟩) (N + M + 1) (N + M + 1)) (w.alloc (.cells (madeCells #[.int .u64 0] (N + M + 1)) 28)) := fun w => make_u64 (N + M + 1) (by omega) w
  have H := Hd.mk h
  have H' := Hd.mk h'
  have HN := Hd.mk hN
  have HM := Hd.mk hM
  have hnn : N ≤ 536870912 := by omega
  have hmm : M ≤ 536870912 := by omega
  rw [hN, hM]
  clear h h' hN hs hs' hM
  go_enter Try.func107, Try.ntmps107
  go_wp2_with fail
  have F0 := Hd.mk (Filled.made w (N + M + 1))
  generalize (w.alloc (.cells (madeCells #[.int .u64 0] (N + M + 1)) 28)) = w1 at *
  generalize hb : w.heap.size = b at *
  have HB := Hd.mk hb
  clear hb hmk
  go_loopw [6] (fun iv wr => ∃ (i : Nat) (f : Nat → Nat), i ≤ N ∧ iv = .int .i64 i ∧ Hd (Filled w wr b (N + M + 1) f) ∧ Hd (vl (N + M + 1) f = x % BB ^ i * y)) (fun iv _ => N - (intOf iv).toNat)
  case atStart => exact ⟨0, _, Nat.zero_le _, rfl, F0, ⟨by simp [Nat.mod_one, vl_zero]⟩⟩
  case round =>
    clear F0
    obtain ⟨i, f, hi, rfl, HF, HV⟩ := hrel
    have G := Hd.mk (H.out.below (HF.out.below))
    have G' := Hd.mk (H'.out.below (HF.out.below))
    by_cases hlt : i < N
    · have hlt' : (i : Int) < (N : Int) := by omega
      have i0 : (0 : Int) ≤ i := by omega
      have l1 := dg_lt x i
      obtain ⟨b', o', rfl⟩ := H.out.some (by rw [HN.out]; omega)
      have hf0 : Hd (f (i + M) = 0) := ⟨by
        rw [vl_dig (fun j _ => HF.out.dig j) (i + M) (by omega : i + M < N + M + 1), HV.out]
        refine dg_zero ?_
        rw [Nat.pow_add]
        refine Nat.mul_lt_mul_of_lt_of_le (Nat.mod_lt _ (BB_pos _)) ?_ (BB_pos _)
        have := lt_nd y; rw [HM.out] at this; omega⟩
      go_wp2_with fail
      go_loopw [7, 8] (fun cv kv wr => ∃ (k cr : Nat) (g : Nat → Nat), k ≤ M ∧ kv = .int .i64 k ∧ cv = .int .u64 cr ∧ cr < 4294967296 ∧ Hd (Filled w wr b (N + M + 1) g) ∧ Hd (g (i + M) = 0) ∧ Hd (vl (N + M + 1) g + cr * BB ^ (i + k) = x % BB ^ i * y + dg x i * BB ^ i * (y % BB ^ k))) (fun _ kv _ => M - (intOf kv).toNat)
      case atStart => exact ⟨0, 0, f, Nat.zero_le _, rfl, rfl, by decide, HF, hf0, ⟨by simp [Nat.mod_one, HV.out]⟩⟩
      case round =>
        obtain ⟨k, cr, g, hk, rfl, rfl, hcr, HG, G0, HC⟩ := hrel
        by_cases hlk : k < M
        · have hlk' : (k : Int) < (M : Int) := by omega
          have k0 : (0 : Int) ≤ k := by omega
          have l2 := dg_lt y k
          obtain ⟨b2, o2, rfl⟩ := H'.out.some (by rw [HM.out]; omega)
          have K1 := Hd.mk (H.out.below (HG.out.below))
          have K2 := Hd.mk (H'.out.below (HG.out.below))
          have c1 := (K1.out.cell b' o' none rfl i (by rw [HN.out]; omega)).2
          have c2 := (K2.out.cell b2 o2 none rfl k (by rw [HM.out]; omega)).2
          have row := HG.out.row.cell (show i + k < N + M + 1 by omega)
          have frz := HG.out.row.frozen (i + k)
          have lg := HG.out.dig (i + k)
          obtain ⟨m1, m2, m3⟩ := mul_fits (g (i + k)) (dg x i) (dg y k) cr lg l1 l2 hcr
          have MS := fun V' => mul_step (vl (N + M + 1) g) V' (x % BB ^ i * y) (g (i + k)) (dg x i) cr y i k HC.out
          have MH := Hd.mk MS
          clear MS
          have p0 : (dg x i : Int) * dg y k = ((dg x i * dg y k : Nat) : Int) := by omega
          generalize dg x i * dg y k = P at *
          go_wp2_with fail
          go_quiet (fail)
          go_wp2_with fail
          have v1 : ((g (i + k) : Int) + P + cr) % 4294967296 = (((g (i + k) + P + cr) % BB : Nat) : Int) := rfl
          have v2 : ((g (i + k) : Int) + P + cr) / 4294967296 = (((g (i + k) + P + cr) / BB : Nat) : Int) := rfl
          rw [v1, v2]
          refine ⟨⟨k + 1, _, _, by omega, by go_num, rfl, m3, ⟨(HG.out.drewN nq).set (i + k) _ (Nat.mod_lt _ (by decide))⟩, ⟨?_⟩, ⟨?_⟩⟩, by simp [intOf]; omega⟩
          · unfold upd; rw [if_neg (by omega)]; exact G0.out
          · exact MH.out _ (vl_upd g (i + k) _ (N + M + 1) (by omega))
        · obtain rfl : k = M := by omega
          have row := HG.out.row.cell (show i + k < N + k + 1 by omega)
          have frz := HG.out.row.frozen (i + k)
          rw [G0.out] at row
          go_wp2_with fail
          refine ⟨⟨i + 1, _, by omega, by go_num, ⟨HG.out.set (i + k) cr hcr⟩, ⟨?_⟩⟩, by simp [intOf]; omega⟩
          have := vl_upd g (i + k) cr (N + k + 1) (by omega)
          rw [G0.out, Nat.zero_mul, Nat.add_zero, HC.out] at this
          rw [this, mod_succ, Nat.add_mul, Nat.mod_eq_of_lt (show y < BB ^ k by have := lt_nd y; rw [HM.out] at this; exact this)]
    · obtain rfl : i = N := by omega
      have hz : vl (i + M + 1) f = x * y := by
        rw [HV.out, Nat.mod_eq_of_lt]
        have := lt_nd x; rw [HN.out] at this; exact this
      go_wp2_with fail
      refine (trim_row b (i + M + 1) (i + M + 1) (x * y) f _ (by omega) (Nat.le_refl _) (fun j _ => HF.out.dig j) hz HF.out.row).mono ?_
      have HZ := Hd.mk hz
      clear hz
      rintro e w' ⟨q, rfl, rfl⟩
      go_wp2_with fail
      go_ret
      exact filled_ret (HF.out.drewN q) HZ.out (Nat.le_refl _)

end Go.Proofs.Ytjhkjekbadbgnaa
