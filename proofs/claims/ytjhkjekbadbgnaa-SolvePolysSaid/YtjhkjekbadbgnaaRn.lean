/- The walks of the reference's made, far, NearMore, Near. -/
import Derived.Test.YtjhkjekbadbgnaaRe
namespace Go.Proofs.Ytjhkjekbadbgnaa
open Go.RowKit
set_option linter.unusedSimpArgs false
set_option linter.unusedVariables false

def madeN (s : Bool) (u : Nat) : Nat := if s then min u 9218868437227405312 + 9223372036854775808 else min u 9218868437227405312
theorem madeN_word (s : Bool) (u : Nat) : madeN s u = dbl.word s (min u 9218868437227405312) := by
  unfold madeN Ieee.Format.word
  rw [dbl_sw]
  cases s <;> simp
  omega

theorem made_any (s : Bool) (u : Nat) (hu : u < 18446744073709551616) (w : World) :
    Calls Try.prog 109 #[.bool s, .int .u64 u] w fun e w' => e = .returned (.int .u64 (madeN s u)) ∧ w = w' := by
  obtain ⟨m, hm⟩ : ∃ m, min u 9218868437227405312 = m := ⟨_, rfl⟩
  have hm2 : min (u : Int) 9218868437227405312 = (m : Int) := by omega
  have hm3 : m ≤ 9218868437227405312 := by omega
  have HR : Hd (madeN s u = if s then m + 9223372036854775808 else m) := ⟨by unfold madeN; rw [hm]⟩
  rw [HR.out]
  clear HR hm
  cases s
  · go_enter Try.func109, Try.ntmps109
    go_wp2
    go_ret
    exact ⟨rfl, rfl⟩
  · go_enter Try.func109, Try.ntmps109
    go_wp2
    go_ret
    exact ⟨ret_int (by simp), rfl⟩

/-- One box with a real. -/
theorem far_any (s : Bool) (a : Option Addr) (d c : Nat) (e : Int) (w : World) (h : Dgs w a d) (hs : nd d ≤ 10000000) (he : -1000000000 ≤ e ∧ e ≤ 1000000000) :
    Calls Try.prog 108 #[.agg #[.bool s, .slice a (nd d) c, .int .i64 e]] w fun en w' => en = .returned (.bool (decide (1100 < (bl d : Int) + e) || decide ((bl d : Int) + e < -1200))) ∧ Below w.heap.size w w' := by
  have hbl : bl d ≤ 32 * nd d := bl_le (by rw [← BB_pow]; exact lt_nd d)
  have H : Hd (∀ (o : Obj) n, Dgs ((w.alloc o).drewN n) a d) := ⟨fun o n => (h.below ((Below.refl _ _).alloc (Nat.le_refl _) _)).drewN n⟩
  have hLe : Hd (∀ w, Dgs w a d → Calls Try.prog 71 #[.slice a (nd d) c] w fun en w' => en = .returned (.int .i64 (bl d)) ∧ w' = w) := ⟨fun w h => (len_any a d c w h (by omega)).mono fun _ _ h => ⟨h.1, h.2.symm⟩⟩
  have hB2 : bl d ≤ 320000000 := by omega
  clear h hbl
  generalize bl d = B at *
  generalize nd d = N at *
  by_cases h1 : 1100 < (B : Int) + e
  · have d1 : decide (1100 < (B : Int) + e) = true := by simp; exact h1
    rw [d1, Bool.true_or]
    clear h1
    go_enter Try.func108, Try.ntmps108
    go_wp2_with fail
    go_quiet ((go_at_call 71; exact Calls.quiet_of_same (hLe.out _ (H.out _ _))))
    go_wp2_with fail
    go_ret
    exact ⟨rfl, below_drewN ((Below.refl _ _).alloc (Nat.le_refl _) _) _⟩
  · have d1 : decide (1100 < (B : Int) + e) = false := by simp; omega
    rw [d1, Bool.false_or]
    clear h1
    go_enter Try.func108, Try.ntmps108
    go_wp2_with fail
    go_quiet ((go_at_call 71; exact Calls.quiet_of_same (hLe.out _ (H.out _ _))))
    go_wp2_with fail
    go_ret
    exact ⟨rfl, below_drewN ((Below.refl _ _).alloc (Nat.le_refl _) _) _⟩

/-- The word nearest to a real and a little more, if more. -/
def nearM (s : Bool) (d : Nat) (e : Int) (more : Bool) : Nat := if d = 0 then 0 else madeN s (rnd d e more)

theorem rnd_big {d : Nat} {e : Int} {more : Bool} (h : 1100 < (bl d : Int) + e) : 9218868437227405312 ≤ rnd d e more := by
  have hL : 1048 ≤ lsb d e := by unfold lsb; omega
  have h2 : 2122 ≤ (lsb d e + 1074).toNat := by omega
  have h3 : 2122 * 4503599627370496 ≤ (lsb d e + 1074).toNat * 4503599627370496 := Nat.mul_le_mul_right _ h2
  unfold rnd
  omega
theorem rnd_small {d : Nat} {e : Int} {more : Bool} (h : (bl d : Int) + e < -1200) : rnd d e more = 0 := by
  have hL : lsb d e = -1074 := by unfold lsb; omega
  have hk : ¬ lsb d e ≤ e := by omega
  unfold rnd
  rw [if_neg hk, hL]
  have h1 := bl_lt d
  have h2 : 2 ^ bl d ≤ 2 ^ ((-1074 - e).toNat - 1) := Nat.pow_le_pow_right (by decide) (by omega)
  have h3 : 2 ^ ((-1074 - e).toNat - 1) ≤ 2 ^ (-1074 - e).toNat := Nat.pow_le_pow_right (by decide) (by omega)
  unfold rh
  rw [Nat.div_eq_of_lt (by omega : d < 2 ^ (-1074 - e).toNat), Nat.div_eq_of_lt (by omega : d < 2 ^ ((-1074 - e).toNat - 1)), if_neg (by omega)]
  rfl
theorem madeN_big {s : Bool} {u : Nat} (h : 9218868437227405312 ≤ u) : madeN s u = madeN s 9218868437227405312 := by
  unfold madeN; rw [Nat.min_eq_right h, Nat.min_eq_right (Nat.le_refl _)]

theorem rnd_lt {d : Nat} {e : Int} {more : Bool} (h0 : d ≠ 0) (h : (bl d : Int) + e ≤ 1100) : rnd d e more < 18446744073709551616 := by
  have hL : lsb d e ≤ 1047 := by unfold lsb; omega
  have hL2 : -1074 ≤ lsb d e := by unfold lsb; omega
  have h2 : (lsb d e + 1074).toNat * 4503599627370496 ≤ 2121 * 4503599627370496 := Nat.mul_le_mul_right _ (by omega)
  unfold rnd
  split
  · rename_i hc
    have := lsb_up d e h0 hc
    omega
  · have h4 := lsb_down d e
    unfold rh
    split <;> omega

set_option maxHeartbeats 16000000 in
set_option maxRecDepth 100000 in
theorem nearMore_any (s : Bool) (a : Option Addr) (d c : Nat) (e : Int) (more : Bool) (w : World) (h : Dgs w a d) (hs : nd d ≤ 1000000) (he : -1000000000 ≤ e ∧ e ≤ 1000000000) :
    Calls Try.prog 92 #[.agg #[.bool s, .slice a (nd d) c, .int .i64 e], .bool more] w (URet (nearM s d e more) w) := by
  have H := Hd.mk h
  by_cases h0 : d = 0
  · have HZ := Hd.mk (zero_t s a d c e (by omega) h0)
    have HR : Hd (0 = nearM s d e more) := ⟨by unfold nearM; rw [if_pos h0]⟩
    generalize nearM s d e more = R at *
    clear h h0 he hs
    generalize nd d = N at *
    go_enter Try.func92, Try.ntmps92
    go_wp2_with fail
    refine (HZ.out _).mono ?_; rintro en w1 ⟨rfl, hb⟩
    have B1 : Hd (Below w.heap.size w w1) := ⟨((Below.refl _ _).alloc (Nat.le_refl _) _).trans (hb.mono (by simp))⟩
    have hk := cellb hb w.heap.size (by simp)
    clear hb
    go_wp2_with fail
    go_ret
    exact ⟨ret_int (by have := HR.out; omega), B1.out⟩
  · have HZ := Hd.mk (zero_f s a d c e (by omega) h0)
    have HF := Hd.mk fun w h => far_any s a d c e w h (by omega) he
    have hbl : bl d ≤ 32 * nd d := bl_le (by rw [← BB_pow]; exact lt_nd d)
    have hLe : Hd (∀ w, Dgs w a d → Calls Try.prog 71 #[.slice a (nd d) c] w fun en w' => en = .returned (.int .i64 (bl d)) ∧ w' = w) := ⟨fun w h => (len_any a d c w h (by omega)).mono fun _ _ h => ⟨h.1, h.2.symm⟩⟩
    have hB2 : bl d ≤ 32000000 := by omega
    rcases (by omega : 1100 < (bl d : Int) + e ∨ (bl d : Int) + e < -1200 ∨ (-1200 ≤ (bl d : Int) + e ∧ (bl d : Int) + e ≤ 1100)) with h1 | h1 | h1
    · have HR : Hd (madeN s 9218868437227405312 = nearM s d e more) := ⟨by unfold nearM; rw [if_neg h0, madeN_big (rnd_big h1)]⟩
      rw [show (decide (1100 < (bl d : Int) + e) || decide ((bl d : Int) + e < -1200)) = true by simp; omega] at HF
      have HM := Hd.mk (made_any s 9218868437227405312 (by decide))
      generalize nearM s d e more = R at *
      clear h h0 hbl
      generalize bl d = B at *
      generalize nd d = N at *
      rcases Decidable.em (0 < e) with h2 | h2
      · have d1 : decide (0 < e) = true := by simp; exact h2
        go_enter Try.func92, Try.ntmps92
        go_wp2_with fail
        refine (HZ.out _).mono ?_; rintro en w1 ⟨rfl, hb⟩
        have B1 : Hd (Below w.heap.size w w1) := ⟨((Below.refl _ _).alloc (Nat.le_refl _) _).trans (hb.mono (by simp))⟩
        have hk := cellb hb w.heap.size (by simp)
        have hz := hb.size
        simp at hz
        clear hb
        go_wp2_with fail
        refine (HF.out _ (H.out.below B1.out)).mono ?_; rintro en w2 ⟨rfl, hb⟩
        have B2 : Hd (Below w.heap.size w w2) := ⟨B1.out.trans (hb.mono B1.out.size)⟩
        have hk2 := cellb hb w.heap.size (by omega)
        clear hb
        go_wp2_with fail
        go_quiet (fail)
        go_wp2_with fail
        refine (HM.out _).mono ?_; rintro en w3 ⟨rfl, rfl⟩
        go_wp2_with fail
        go_ret
        exact ⟨ret_int (by rw [HR.out]), below_drewN B2.out _⟩
      · have d1 : decide (0 < e) = false := by simp; omega
        have d2 : decide (0 < (B : Int) + e) = true := by simp; omega
        go_enter Try.func92, Try.ntmps92
        go_wp2_with fail
        refine (HZ.out _).mono ?_; rintro en w1 ⟨rfl, hb⟩
        have B1 : Hd (Below w.heap.size w w1) := ⟨((Below.refl _ _).alloc (Nat.le_refl _) _).trans (hb.mono (by simp))⟩
        have hk := cellb hb w.heap.size (by simp)
        have hz := hb.size
        simp at hz
        clear hb
        go_wp2_with fail
        refine (HF.out _ (H.out.below B1.out)).mono ?_; rintro en w2 ⟨rfl, hb⟩
        have B2 : Hd (Below w.heap.size w w2) := ⟨B1.out.trans (hb.mono B1.out.size)⟩
        have hk2 := cellb hb w.heap.size (by omega)
        clear hb
        have HQ : Hd (∀ n, Dgs (w2.drewN n) a d) := ⟨fun n => (H.out.below B2.out).drewN n⟩
        go_wp2_with fail
        go_quiet ((go_at_call 71; exact Calls.quiet_of_same (hLe.out _ (HQ.out _))))
        go_wp2_with fail
        refine (HM.out _).mono ?_; rintro en w3 ⟨rfl, rfl⟩
        go_wp2_with fail
        go_ret
        exact ⟨ret_int (by rw [HR.out]), below_drewN B2.out _⟩
    · have HR : Hd (madeN s 0 = nearM s d e more) := ⟨by unfold nearM; rw [if_neg h0, rnd_small h1]⟩
      rw [show (decide (1100 < (bl d : Int) + e) || decide ((bl d : Int) + e < -1200)) = true by simp; omega] at HF
      have HM := Hd.mk (made_any s 0 (by decide))
      generalize nearM s d e more = R at *
      clear h h0 hbl
      generalize bl d = B at *
      generalize nd d = N at *
      have d1 : decide (0 < e) = false := by simp; omega
      have d2 : decide (0 < (B : Int) + e) = false := by simp; omega
      go_enter Try.func92, Try.ntmps92
      go_wp2_with fail
      refine (HZ.out _).mono ?_; rintro en w1 ⟨rfl, hb⟩
      have B1 : Hd (Below w.heap.size w w1) := ⟨((Below.refl _ _).alloc (Nat.le_refl _) _).trans (hb.mono (by simp))⟩
      have hk := cellb hb w.heap.size (by simp)
      have hz := hb.size
      simp at hz
      clear hb
      go_wp2_with fail
      refine (HF.out _ (H.out.below B1.out)).mono ?_; rintro en w2 ⟨rfl, hb⟩
      have B2 : Hd (Below w.heap.size w w2) := ⟨B1.out.trans (hb.mono B1.out.size)⟩
      have hk2 := cellb hb w.heap.size (by omega)
      clear hb
      have HQ : Hd (∀ n, Dgs (w2.drewN n) a d) := ⟨fun n => (H.out.below B2.out).drewN n⟩
      go_wp2_with fail
      go_quiet ((go_at_call 71; exact Calls.quiet_of_same (hLe.out _ (HQ.out _))))
      go_wp2_with fail
      refine (HM.out _).mono ?_; rintro en w3 ⟨rfl, rfl⟩
      go_wp2_with fail
      go_ret
      exact ⟨ret_int (by rw [HR.out]), below_drewN B2.out _⟩
    · have HR : Hd (madeN s (rnd d e more) = nearM s d e more) := ⟨by unfold nearM; rw [if_neg h0]⟩
      rw [show (decide (1100 < (bl d : Int) + e) || decide ((bl d : Int) + e < -1200)) = false by simp; omega] at HF
      have HM := Hd.mk (made_any s (rnd d e more) (rnd_lt h0 h1.2))
      have HRd := Hd.mk fun w h => rounded_any a d c e more w h hs h0 h1.2 h1.1
      generalize nearM s d e more = R at *
      generalize rnd d e more = U at *
      clear h h0 hbl
      generalize bl d = B at *
      generalize nd d = N at *
      go_enter Try.func92, Try.ntmps92
      go_wp2_with fail
      refine (HZ.out _).mono ?_; rintro en w1 ⟨rfl, hb⟩
      have B1 : Hd (Below w.heap.size w w1) := ⟨((Below.refl _ _).alloc (Nat.le_refl _) _).trans (hb.mono (by simp))⟩
      have hk := cellb hb w.heap.size (by simp)
      have hz := hb.size
      simp at hz
      clear hb
      go_wp2_with fail
      refine (HF.out _ (H.out.below B1.out)).mono ?_; rintro en w2 ⟨rfl, hb⟩
      have B2 : Hd (Below w.heap.size w w2) := ⟨B1.out.trans (hb.mono B1.out.size)⟩
      have hk2 := cellb hb w.heap.size (by omega)
      have hz2 := hb.size
      clear hb
      go_wp2_with fail
      have c0 : w2.cell? ⟨w.heap.size, 0, none⟩ = some (.bool s) := by go_simp
      have c1 : w2.cell? ⟨w.heap.size, 1, none⟩ = some (.slice a N c) := by go_simp
      have c2 : w2.cell? ⟨w.heap.size, 2, none⟩ = some (.int .i64 e) := by go_simp
      have HSZ : Hd (w.heap.size < w2.heap.size) := ⟨by omega⟩
      have HQ : Hd (Dgs w2.drew a d) := ⟨(H.out.below B2.out).keep fun _ _ _ h => h⟩
      clear hk hk2 hz hz2
      go_region_held3 (fun w' => w'.cell? ⟨w.heap.size, 0, none⟩ = some (.bool s) ∧ w'.cell? ⟨w.heap.size, 1, none⟩ = some (.slice a N c) ∧ w'.cell? ⟨w.heap.size, 2, none⟩ = some (.int .i64 e)) (first | exact ⟨c0, c1, c2⟩ | exact ⟨d0, d1, d2⟩) (first | (go_at_call 109; refine (HM.out _).mono ?_; rintro en w4 ⟨rfl, rfl⟩) | (
        go_at_call 110
        refine (HRd.out _ HQ.out).mono ?_
        rintro en w3 ⟨rfl, hb⟩
        have k0 := cellb hb w.heap.size (by have := HSZ.out; show w.heap.size < w2.heap.size; exact this)
        have d0 := (k0.1 _).trans c0
        have d1 := (k0.1 _).trans c1
        have d2 := (k0.1 _).trans c2
        have B3 := Hd.mk (B2.out.drew.trans (hb.mono B2.out.size))
        clear hb k0))
      go_wp2_with fail
      go_ret
      exact ⟨ret_int (by rw [HR.out]), B3.out⟩

theorem near_any (s : Bool) (a : Option Addr) (d c : Nat) (e : Int) (w : World) (h : Dgs w a d) (hs : nd d ≤ 1000000) (he : -1000000000 ≤ e ∧ e ≤ 1000000000) :
    Calls Try.prog 64 #[.agg #[.bool s, .slice a (nd d) c, .int .i64 e]] w (URet (nearM s d e false) w) := by
  have H := Hd.mk h
  have HN := Hd.mk fun w h => nearMore_any s a d c e false w h hs he
  generalize nearM s d e false = R at *
  clear h hs he
  generalize nd d = N at *
  go_enter Try.func64, Try.ntmps64
  go_wp2_with fail
  have ba : Below w.heap.size w (w.alloc (.cells #[.bool s, .slice a N c, .int .i64 e] 71)) := (Below.refl _ _).alloc (Nat.le_refl _) _
  refine (HN.out _ (H.out.below ba)).mono ?_; rintro en w1 ⟨rfl, hb⟩
  have B1 : Hd (Below w.heap.size w w1) := ⟨ba.trans (hb.mono (by simp))⟩
  clear hb ba
  go_wp2_with fail
  go_ret
  exact ⟨rfl, B1.out⟩

end Go.Proofs.Ytjhkjekbadbgnaa
