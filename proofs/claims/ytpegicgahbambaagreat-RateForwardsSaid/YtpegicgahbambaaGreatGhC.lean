/- The reference's Forward (tenorref9). -/
import Derived.Test.YtpegicgahbambaaGreatGgC
import Derived.LoopTactic
import Derived.Outline
namespace Go.Proofs.YtpegicgahbambaaGreat
open Go.RowKit
set_option linter.unusedSimpArgs false
set_option linter.unusedVariables false

/-- The three that are asked. -/
def fw3 (n f t j : Nat) : Nat := if j = 0 then n else if j = 1 then f else t
theorem fw3_F (n f t : Nat) (hn : F64 n) (hf : F64 f) (ht : F64 t) (j : Nat) : F64 (fw3 n f t j) := by
  unfold fw3; split
  · exact hn
  · split
    · exact hf
    · exact ht
theorem fw3_no (n f t j : Nat) (h : abv (fw3 n f t j) = false) : fwdA n f t = (0, 91) := by
  rw [fwd_eq]
  unfold fw3 at h
  split at h
  · rw [h, if_pos (by simp)]
  · split at h
    · rw [h, if_pos (by simp)]
    · rw [h, if_pos (by simp)]
theorem fw3_ok (n f t : Nat) (h : ∀ j, j < 3 → abv (fw3 n f t j) = true) : fwdA n f t = if fin (fwdQ n f t) = false then (0, 91) else (fwdQ n f t, 0) := by
  have h0 := h 0 (by decide)
  have h1 := h 1 (by decide)
  have h2 := h 2 (by decide)
  rw [fwd_eq]
  unfold fw3 at h0 h1 h2
  rw [if_pos rfl] at h0
  rw [if_neg (by decide), if_pos rfl] at h1
  rw [if_neg (by decide), if_neg (by decide)] at h2
  rw [h0, h1, h2, if_neg (by decide)]

set_option maxHeartbeats 3200000 in
theorem rForward_any (n f t : Nat) (hn : F64 n) (hf : F64 f) (ht : F64 t) (w : World) :
    Calls Tryz.prog 5 #[.int .u64 n, .int .u64 f, .int .u64 t] w (AnsRet (fwdA n f t) w) := by
  have HN := Hd.mk (fun j => rNumber_any (fw3 n f t j) (fw3_F n f t hn hf ht j))
  have HA := Hd.mk (fun j => above9_any (fw3 n f t j) (fw3_F n f t hn hf ht j))
  have HNo := Hd.mk (fw3_no n f t)
  have HOk := Hd.mk (fw3_ok n f t)
  obtain ⟨A, hA⟩ : ∃ A, fwdA n f t = A := ⟨_, rfl⟩
  have HAA := Hd.mk hA
  rw [hA] at HNo HOk ⊢
  clear hA
  go_enter Tryz.func5, Tryz.ntmps5
  go_wp2_with fail
  have HB : Hd (Below w.heap.size w (w.alloc (.cells #[.int .u64 n, .int .u64 f, .int .u64 t] 26))) := ⟨(Below.refl _ _).alloc (Nat.le_refl _) _⟩
  have HX : Hd ((w.alloc (.cells #[.int .u64 n, .int .u64 f, .int .u64 t] 26)).rowIs w.heap.size 26 3 (fun j => .int .u64 (fw3 n f t j))) := ⟨World.rowIs_alloc w #[.int .u64 n, .int .u64 f, .int .u64 t] 26 (fun j => .int .u64 (fw3 n f t j)) (fun i hi => by
    rcases (by simp at hi; omega : i = 0 ∨ i = 1 ∨ i = 2) with rfl | rfl | rfl <;> rfl)⟩
  generalize (w.alloc (.cells #[.int .u64 n, .int .u64 f, .int .u64 t] 26)) = w1 at *
  obtain ⟨bx, hbx⟩ : ∃ bx, w.heap.size = bx := ⟨_, rfl⟩
  rw [hbx] at HX ⊢
  have HBX := Hd.mk hbx
  clear hbx
  go_loop [9] (fun iv => ∃ j : Nat, j ≤ 3 ∧ iv = .int .i64 j ∧ Hd (∀ m, m < j → abv (fw3 n f t m) = true)) (fun iv => 3 - (intOf iv).toNat)
  case atStart => exact ⟨0, by decide, rfl, ⟨fun m hm => by omega⟩⟩
  case round =>
    obtain ⟨j, hj, rfl, HM⟩ := hrel
    by_cases hlt : j < 3
    · have hc := HX.out.cell hlt
      have HNj := Hd.mk (HN.out j)
      have HAj := Hd.mk (HA.out j)
      have HNoj := Hd.mk (HNo.out j)
      have HS : Hd (abv (fw3 n f t j) = true → ∀ m, m < j + 1 → abv (fw3 n f t m) = true) := ⟨fun h m hm => by
        by_cases e : m = j
        · rw [e]; exact h
        · exact HM.out m (by omega)⟩
      have HV : Hd (abv (fw3 n f t j) = (fin (fw3 n f t j) && ltB 0 (fw3 n f t j))) := ⟨rfl⟩
      have hlt' : (j : Int) < 3 := by omega
      have hj0 : (0 : Int) ≤ j := by omega
      clear HM
      generalize fw3 n f t j = v at *
      cases h1 : fin v
      · rw [h1] at HNj HV
        obtain rfl := HNoj.out HV.out
        clear h1
        go_wp2_with fail
        refine (HNj.out _).mono ?_; rintro e w' ⟨rfl, rfl⟩
        go_wp2_with fail
        go_ret2
        exact ⟨rfl, HB.out⟩
      · rw [h1] at HNj HV
        rw [Bool.true_and] at HV
        cases h2 : ltB 0 v
        · rw [h2] at HAj HV
          obtain rfl := HNoj.out HV.out
          clear h1 h2
          go_wp2_with fail
          refine (HNj.out _).mono ?_; rintro e w' ⟨rfl, rfl⟩
          go_wp2_with fail
          refine (HAj.out _).mono ?_; rintro e w' ⟨rfl, rfl⟩
          go_wp2_with fail
          go_ret2
          exact ⟨rfl, HB.out⟩
        · rw [h2] at HAj HV
          have HS2 := Hd.mk (HS.out HV.out)
          clear h1 h2
          go_wp2_with fail
          refine (HNj.out _).mono ?_; rintro e w' ⟨rfl, rfl⟩
          go_wp2_with fail
          refine (HAj.out _).mono ?_; rintro e w' ⟨rfl, rfl⟩
          go_wp2_with fail
          exact ⟨⟨j + 1, by omega, by go_num, HS2⟩, by simp [intOf]; omega⟩
    · have hge : ¬ (j : Int) < 3 := by omega
      have hA := HOk.out (fun m hm => HM.out m (by omega))
      have HZ : Hd (A = if fin (fwdQ n f t) = false then (0, 91) else (fwdQ n f t, 0)) := ⟨hA⟩
      clear hA hlt HM HN HA HNo HOk HAA HX
      go_wp2_with fail
      refine (ex_div n f hn hf _).mono ?_
      rintro en w2 ⟨q1, rfl, HQ1, FQ1, hb⟩
      have B2 := Hd.mk (HB.out.trans (hb.out.mono HB.out.size))
      clear hb
      go_wp2_with fail
      refine (ex_sub q1 oneW FQ1 one_w.w _).mono ?_
      rintro en w3 ⟨q2, rfl, HQ2, FQ2, hb⟩
      have B3 := Hd.mk (B2.out.trans (hb.out.mono B2.out.size))
      clear hb
      go_wp2_with fail
      refine (ex_div q2 t FQ2 ht _).mono ?_
      rintro en w4 ⟨q, rfl, HQ, FQ, hb⟩
      have BQ := Hd.mk (B3.out.trans (hb.out.mono B3.out.size))
      clear hb
      have HE : Hd (q = fwdQ n f t) := ⟨by unfold fwdQ; rw [HQ.out, HQ2.out, HQ1.out]⟩
      rw [← HE.out] at HZ
      have HNq := Hd.mk (rNumber_any q FQ)
      clear HE HQ HQ2 HQ1
      cases hq : fin q
      · rw [hq] at HNq HZ
        obtain rfl : A = (0, 91) := by rw [HZ.out, if_pos rfl]
        clear hq HZ
        go_wp2_with fail
        refine (HNq.out _).mono ?_
        rintro e w' ⟨rfl, rfl⟩
        go_wp2_with fail
        go_ret2
        exact ⟨rfl, BQ.out⟩
      · rw [hq] at HNq HZ
        obtain rfl : A = (q, 0) := by rw [HZ.out, if_neg (by decide)]
        clear hq HZ
        go_wp2_with fail
        refine (HNq.out _).mono ?_
        rintro e w' ⟨rfl, rfl⟩
        go_wp2_with fail
        go_ret2
        exact ⟨rfl, BQ.out⟩

end Go.Proofs.YtpegicgahbambaaGreat
