/- The walk of the reference's ShiftUp. -/
import Derived.Test.YtjhkjekbadbgnaaDm
namespace Go.Proofs.Ytjhkjekbadbgnaa
open Go.RowKit
set_option linter.unusedSimpArgs false
set_option linter.unusedVariables false

theorem up_low (x i q r : Nat) (hr : r < 32) (f : Nat → Nat) (n : Nat) (hf : ∀ j, f j < BB) (hn : i + q < n) (hv : vl n f = x % BB ^ i * (BB ^ q * 2 ^ r)) :
    f (i + q) < 2 ^ r ∧ (i + q + 1 < n → f (i + q + 1) = 0) := by
  have hl : x % BB ^ i * (BB ^ q * 2 ^ r) < BB ^ (i + q) * 2 ^ r := by
    rw [← Nat.mul_assoc, Nat.pow_add]
    refine Nat.mul_lt_mul_of_pos_right ?_ (Nat.pow_pos (by decide))
    exact Nat.mul_lt_mul_of_pos_right (Nat.mod_lt _ (BB_pos _)) (BB_pos _)
  constructor
  · rw [vl_dig (fun j _ => hf j) (i + q) hn, hv]
    unfold dg
    refine Nat.lt_of_le_of_lt (Nat.mod_le _ _) ?_
    rw [Nat.div_lt_iff_lt_mul (BB_pos _), Nat.mul_comm (2 ^ r)]
    exact hl
  · intro h2
    rw [vl_dig (fun j _ => hf j) (i + q + 1) h2, hv]
    refine dg_zero (Nat.lt_of_lt_of_le hl ?_)
    rw [Nat.pow_succ]
    refine Nat.mul_le_mul_left _ ?_
    exact Nat.pow_le_pow_right (by decide) (by omega : r ≤ 32)

theorem up_fits (d r g : Nat) (hr : r < 32) (hd : d < 4294967296) (hg : g < 2 ^ r) : g + (d * 2 ^ r) % BB < 4294967296 ∧ d * 2 ^ r < 18446744073709551616 ∧ (d * 2 ^ r) / BB < 4294967296 := by
  have e : BB = 2 ^ r * 2 ^ (32 - r) := by rw [← Nat.pow_add, show r + (32 - r) = 32 by omega]
  have h1 : (d * 2 ^ r) % BB = 2 ^ r * (d % 2 ^ (32 - r)) := by rw [e, Nat.mul_comm d, Nat.mul_mod_mul_left]
  have h2 : d % 2 ^ (32 - r) + 1 ≤ 2 ^ (32 - r) := Nat.mod_lt _ (Nat.pow_pos (by decide))
  have h3 := Nat.mul_le_mul_left (2 ^ r) h2
  rw [← e, Nat.mul_add, ← h1, Nat.mul_one, show BB = 4294967296 from rfl] at h3
  have h4 : 2 ^ r ≤ 2 ^ 31 := Nat.pow_le_pow_right (by decide) (by omega)
  have h5 : d * 2 ^ r ≤ 4294967295 * 2147483648 := Nat.mul_le_mul (by omega) h4
  refine ⟨by rw [show BB = 4294967296 from rfl]; omega, by omega, ?_⟩
  rw [show BB = 4294967296 from rfl]; omega

theorem up_step (x i q r g V V1 V2 : Nat) (hv : V = x % BB ^ i * (BB ^ q * 2 ^ r))
    (h1 : V1 + g * BB ^ (i + q) = V + (g + (dg x i * 2 ^ r) % BB) * BB ^ (i + q)) (h2 : V2 = V1 + (dg x i * 2 ^ r) / BB * BB ^ (i + q + 1)) :
    V2 = x % BB ^ (i + 1) * (BB ^ q * 2 ^ r) := by
  rw [mod_succ, Nat.add_mul, h2]
  have e := Nat.div_add_mod (dg x i * 2 ^ r) BB
  have e2 : dg x i * BB ^ i * (BB ^ q * 2 ^ r) = (dg x i * 2 ^ r) * BB ^ (i + q) := by
    rw [Nat.pow_add]; simp only [Nat.mul_assoc, Nat.mul_comm, Nat.mul_left_comm]
  rw [e2, Nat.pow_succ]
  generalize dg x i * 2 ^ r = S at *
  have e3 : S * BB ^ (i + q) = (BB * (S / BB) + S % BB) * BB ^ (i + q) := by rw [e]
  rw [e3, ← hv]
  generalize S / BB = a at *
  generalize S % BB = b at *
  generalize BB ^ (i + q) = Q at *
  rw [Nat.add_mul] at h1 ⊢
  rw [show a * (Q * BB) = BB * a * Q by simp only [Nat.mul_assoc, Nat.mul_comm, Nat.mul_left_comm]]
  generalize BB * a * Q = z at *
  omega

set_option maxHeartbeats 4000000 in
set_option maxRecDepth 100000 in
theorem shiftUp_any (a : Option Addr) (x c n : Nat) (w : World) (h : Dgs w a x) (hs : nd x ≤ 536870912) (hn : n ≤ 536870912) :
    Calls Try.prog 86 #[.slice a (nd x) c, .int .i64 n] w (DRet (x * 2 ^ n) w) := by
  by_cases h0 : x = 0
  · subst h0
    rw [Nat.zero_mul]
    have hn : nd 0 = 0 := rfl
    rw [hn]
    clear h hs hn
    go_enter Try.func86, Try.ntmps86
    go_wp2
    go_ret
    exact ⟨none, 0, rfl, Nat.zero_le _, Dgs.zero _, Below.refl _ _, fun _ _ _ e => by cases e⟩
  · have hp := nd_pos h0
    obtain ⟨N, hN⟩ : ∃ N, nd x = N := ⟨_, rfl⟩
    obtain ⟨q, hq⟩ : ∃ q, n / 32 = q := ⟨_, rfl⟩
    obtain ⟨r, hr⟩ : ∃ r, n % 32 = r := ⟨_, rfl⟩
    have q1 : Int.tdiv (n : Int) 32 = q := by rw [Int.tdiv_eq_ediv_of_nonneg (by omega)]; omega
    have r1 : Int.tmod (n : Int) 32 = r := by rw [Int.tmod_eq_emod_of_nonneg (by omega)]; omega
    have q2 : (n : Int) / 32 = q := by omega
    have r2 : (n : Int) % 32 = r := by omega
    have hr3 : r < 32 := by omega
    have hq3 : q ≤ 536870912 := by omega
    have r0 : (0 : Int) ≤ r := by omega
    obtain ⟨b', o', rfl⟩ := h.some hp
    have H := Hd.mk h
    have HN := Hd.mk hN
    have HQ := Hd.mk (show n = 32 * q + r by omega)
    have hnn : N ≤ 536870912 := by omega
    have hmk : ∀ w, (Instr.makeSlice 32 (.int .i64 ((N : Int) + q + 1)) (.int .i64 ((N : Int) + q + 1))).run Try.prog w = .ok (.slice (some ⟨w.heap.size, 0, none⟩) (N + q + 1) (N + q + 1)) (w.alloc (.cells (madeCells #[.int .u64 0] (N + q + 1)) 28)) := fun w => make_u64 (N + q + 1) (by omega) w
    have d0 : ((N : Int) == 0) = false := by rw [beq_eq_false_iff_ne]; omega
    rw [hN]
    clear h hN hs hp h0 hq hr
    go_enter Try.func86, Try.ntmps86
    go_wp2_with fail
    have F0 := Hd.mk (Filled.made w (N + q + 1))
    generalize (w.alloc (.cells (madeCells #[.int .u64 0] (N + q + 1)) 28)) = w1 at *
    generalize hb : w.heap.size = b at *
    have HB := Hd.mk hb
    clear hb hmk
    go_loopw [6] (fun iv wr => ∃ (i : Nat) (f : Nat → Nat), i ≤ N ∧ iv = .int .i64 i ∧ Hd (Filled w wr b (N + q + 1) f) ∧ Hd (vl (N + q + 1) f = x % BB ^ i * (BB ^ q * 2 ^ r))) (fun iv _ => N - (intOf iv).toNat)
    case atStart => exact ⟨0, _, Nat.zero_le _, rfl, F0, ⟨by simp [Nat.mod_one, vl_zero]⟩⟩
    case round =>
      clear F0
      obtain ⟨i, f, hi, rfl, HF, HV⟩ := hrel
      have G := Hd.mk (H.out.below (HF.out.below))
      by_cases hlt : i < N
      · have hlt' : (i : Int) < (N : Int) := by omega
        have i0 : (0 : Int) ≤ i := by omega
        have l1 := dg_lt x i
        have c1 := (G.out.cell b' o' none rfl i (by rw [HN.out]; omega)).2
        have row := HF.out.row.cell (show i + q < N + q + 1 by omega)
        have frz := HF.out.row.frozen (i + q)
        have frz2 := HF.out.row.frozen (i + q + 1)
        have row2 := HF.out.row.cell (show i + q + 1 < N + q + 1 by omega)
        obtain ⟨g1, g2⟩ := up_low x i q r hr3 f (N + q + 1) HF.out.dig (by omega) HV.out
        have g3 := g2 (by omega)
        clear g2
        rw [g3] at row2
        have G3 := Hd.mk g3
        obtain ⟨m1, m2, m3⟩ := up_fits (dg x i) r (f (i + q)) hr3 l1 g1
        have MS := fun V1 V2 => up_step x i q r (f (i + q)) (vl (N + q + 1) f) V1 V2 HV.out
        have MH := Hd.mk MS
        have p0 : (dg x i : Int) * 2 ^ r = ((dg x i * 2 ^ r : Nat) : Int) := by rw [Int.natCast_mul, Int.natCast_pow]; rfl
        clear MS g1 g3
        generalize dg x i * 2 ^ r = S at *
        have m1' : f (i + q) + S % 4294967296 < 4294967296 := m1
        have m3' : S / 4294967296 < 4294967296 := m3
        go_wp2_with fail
        have v1 : (f (i + q) : Int) + (S : Int) % 4294967296 = ((f (i + q) + S % BB : Nat) : Int) := rfl
        have v2 : (S : Int) / 4294967296 = ((S / BB : Nat) : Int) := rfl
        rw [v1, v2]
        refine ⟨⟨i + 1, _, by omega, by go_num, ⟨(HF.out.set (i + q) _ m1).set (i + q + 1) _ m3⟩, ⟨?_⟩⟩, by simp [intOf]; omega⟩
        refine MH.out _ _ (vl_upd f (i + q) _ (N + q + 1) (by omega)) ?_
        have := vl_upd (upd f (i + q) (f (i + q) + S % BB)) (i + q + 1) (S / BB) (N + q + 1) (by omega)
        rw [show upd f (i + q) (f (i + q) + S % BB) (i + q + 1) = 0 by unfold upd; rw [if_neg (by omega)]; exact G3.out] at this
        omega
      · obtain rfl : i = N := by omega
        have hz : vl (i + q + 1) f = x * 2 ^ n := by
          rw [HV.out, Nat.mod_eq_of_lt (show x < BB ^ i by have := lt_nd x; rw [HN.out] at this; exact this), HQ.out, BB_pow, Nat.pow_add]
        go_wp2_with fail
        refine (trim_row b (i + q + 1) (i + q + 1) (x * 2 ^ n) f _ (by omega) (Nat.le_refl _) (fun j _ => HF.out.dig j) hz HF.out.row).mono ?_
        have HZ := Hd.mk hz
        clear hz
        rintro e w' ⟨q, rfl, rfl⟩
        go_wp2_with fail
        go_ret
        exact filled_ret (HF.out.drewN q) HZ.out (Nat.le_refl _)

end Go.Proofs.Ytjhkjekbadbgnaa
