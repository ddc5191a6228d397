/- The walks of the reference's reals: Digits, Zero, low, both, Of. -/
import Derived.Test.YtjhkjekbadbgnaaDv
import Derived.Test.YtjhkjekbadbgnaaPo
import Derived.Test.YtjhkjekbadbgnaaSe
import Derived.Deep.RegionHeld3
namespace Go.Proofs.Ytjhkjekbadbgnaa
open Go.RowKit
set_option linter.unusedSimpArgs false
set_option linter.unusedVariables false

set_option maxHeartbeats 1600000 in
theorem digits_any (n : Nat) (hn : n < 18446744073709551616) (w : World) :
    Calls Try.prog 91 #[.int .u64 n] w (DRet n w) := by
  have h2 : n / BB < BB := by show n / 4294967296 < 4294967296; omega
  have v1 : (n : Int) % 4294967296 = ((n % BB : Nat) : Int) := rfl
  have v2 : (n : Int) / 4294967296 = ((n / BB : Nat) : Int) := rfl
  have h1 : n % BB < BB := Nat.mod_lt _ (by decide)
  have HV : Hd (vl 2 (fun i => if i = 0 then n % BB else n / BB) = n) := ⟨by
    simp only [vl]
    have := Nat.div_add_mod n BB
    rw [if_pos trivial, if_neg (by decide), Nat.pow_zero, Nat.mul_one, Nat.pow_one, Nat.zero_add, Nat.add_comm, Nat.mul_comm]
    exact this⟩
  have H1 := Hd.mk h1
  have H2 := Hd.mk h2
  clear h1 h2 v1 v2
  go_enter Try.func91, Try.ntmps91
  go_wp2_with fail
  have v1 : (n : Int) % 4294967296 = ((n % BB : Nat) : Int) := rfl
  have v2 : (n : Int) / 4294967296 = ((n / BB : Nat) : Int) := rfl
  rw [v1, v2]
  have F : Hd (Filled w (w.alloc (.cells #[.int .u64 ((n % BB : Nat) : Int), .int .u64 ((n / BB : Nat) : Int)] 28)) w.heap.size 2 (fun i => if i = 0 then n % BB else n / BB)) := ⟨{
    below := (Below.refl _ _).alloc (Nat.le_refl _) _
    own := Nat.le_refl _
    row := World.rowIs_alloc w #[.int .u64 ((n % BB : Nat) : Int), .int .u64 ((n / BB : Nat) : Int)] 28 _ (fun i hi => by
      simp at hi
      rcases (by omega : i = 0 ∨ i = 1) with rfl | rfl <;> rfl)
    dig := fun j => by split; exact H1.out; exact H2.out }⟩
  generalize (w.alloc (.cells #[.int .u64 ((n % BB : Nat) : Int), .int .u64 ((n / BB : Nat) : Int)] 28)) = w1 at *
  generalize hb : w.heap.size = b at *
  have HB := Hd.mk hb
  clear hb v1 v2
  refine (trim_row b 2 2 n _ w1 (by omega) (Nat.le_refl _) (fun j _ => F.out.dig j) HV.out F.out.row).mono ?_
  rintro e w' ⟨q, rfl, rfl⟩
  go_wp2_with fail
  go_ret
  exact filled_ret (F.out.drewN q) HV.out (Nat.le_refl _)

theorem zero_any (s : Bool) (a : Option Addr) (d c : Nat) (e : Int) (w : World) (hd : nd d ≤ 1073741824) :
    Calls Try.prog 85 #[.agg #[.bool s, .slice a (nd d) c, .int .i64 e]] w fun en w' => en = .returned (.bool (d == 0)) ∧ Below w.heap.size w w' := by
  have HD : Hd (((nd d : Int) == 0) = (d == 0)) := ⟨by
    rw [Bool.eq_iff_iff, beq_iff_eq, beq_iff_eq]
    have := @nd_eq_zero d
    omega⟩
  go_enter Try.func85, Try.ntmps85
  go_wp2_with fail
  go_ret
  exact ⟨ret_bool HD.out, (Below.refl _ _).alloc (Nat.le_refl _) _⟩

/-- It returns a real. -/
def NRet (s : Bool) (d : Nat) (e : Int) (w : World) (en : Ending) (w' : World) : Prop := ∃ a c, en = .returned (.agg #[.bool s, .slice a (nd d) c, .int .i64 e]) ∧ Dgs w' a d ∧ Below w.heap.size w w'

set_option maxHeartbeats 1600000 in
theorem low_any (s : Bool) (a : Option Addr) (d c : Nat) (e e' : Int) (w : World) (h : Dgs w a d) (hs : nd d ≤ 536870912) (he : d ≠ 0 → e' ≤ e) (he2 : -10000 ≤ e') (he3 : e ≤ 10000) :
    Calls Try.prog 103 #[.agg #[.bool s, .slice a (nd d) c, .int .i64 e], .int .i64 e'] w (DRet (d * 2 ^ (e - e').toNat) w) := by
  have H := Hd.mk h
  clear h
  by_cases h0 : d = 0
  · subst h0
    have ZC : ∀ w, Calls Try.prog 85 #[.agg #[.bool s, .slice a (nd 0) c, .int .i64 e]] w fun en w' => en = .returned (.bool true) ∧ Below w.heap.size w w' := fun w => zero_any s a 0 c e w (by decide)
    have HZ := Hd.mk ZC
    have HR : Hd (∀ w', Below w.heap.size w w' → DRet (0 * 2 ^ (e - e').toNat) w (.returned (.slice none 0 0)) w') := ⟨fun w' hb => by
      rw [Nat.zero_mul]
      exact ⟨none, 0, rfl, Nat.zero_le _, Dgs.zero _, hb, fun _ _ _ e => by cases e⟩⟩
    clear ZC he hs
    generalize nd 0 = N at *
    go_enter Try.func103, Try.ntmps103
    go_wp2_with fail
    refine (HZ.out _).mono ?_; rintro en w' ⟨rfl, hb⟩
    have hk := cellb hb w.heap.size (by simp)
    go_wp2_with fail
    go_ret
    exact HR.out _ (((Below.refl _ _).alloc (Nat.le_refl _) _).trans (hb.mono (by simp)))
  · have he' := he h0
    have ZC : ∀ w, Calls Try.prog 85 #[.agg #[.bool s, .slice a (nd d) c, .int .i64 e]] w fun en w' => en = .returned (.bool false) ∧ Below w.heap.size w w' := fun w => by
      have := zero_any s a d c e w (by omega)
      rwa [show (d == 0) = false by rw [beq_eq_false_iff_ne]; exact h0] at this
    obtain ⟨n, hn⟩ : ∃ n, (e - e').toNat = n := ⟨_, rfl⟩
    have hn2 : e - e' = (n : Int) := by omega
    have UC : ∀ w, Dgs w a d → Calls Try.prog 86 #[.slice a (nd d) c, .int .i64 (e - e')] w (DRet (d * 2 ^ n) w) := fun w h => by
      rw [hn2]; exact shiftUp_any a d c n w h (by omega) (by omega)
    have HZ := Hd.mk ZC
    have HU := Hd.mk UC
    rw [hn]
    clear ZC UC he h0 hn hn2
    go_enter Try.func103, Try.ntmps103
    go_wp2_with fail
    refine (HZ.out _).mono ?_; rintro en w' ⟨rfl, hb⟩
    have hk := cellb hb w.heap.size (by simp)
    have hw : Hd (Below w.heap.size w w') := ⟨((Below.refl _ _).alloc (Nat.le_refl _) _).trans (hb.mono (by simp))⟩
    have hz := hb.size
    simp at hz
    clear hb
    go_wp2_with fail
    refine (HU.out _ (H.out.below hw.out)).mono ?_
    rintro en w2 ⟨a2, c2, rfl, hc2, hd2, hb2, hf2⟩
    have hw2 := hw.out.trans (hb2.mono hw.out.size)
    have D2 := Hd.mk hd2
    have HC2 := Hd.mk hc2
    have HW2 := Hd.mk hw2
    have HF2 := Hd.mk hf2
    clear hd2 hb2 hw2 hc2 hf2
    go_wp2_with fail
    go_ret
    exact ⟨_, _, rfl, HC2.out, D2.out, HW2.out, fun b o v e => by have := HF2.out b o v e; omega⟩

set_option maxHeartbeats 1600000 in
theorem both_any (s : Bool) (a : Option Addr) (d c : Nat) (e : Int) (s' : Bool) (a' : Option Addr) (d' c' : Nat) (e' : Int) (w : World) (hs : nd d ≤ 536870912) (hs' : nd d' ≤ 536870912) :
    Calls Try.prog 102 #[.agg #[.bool s, .slice a (nd d) c, .int .i64 e], .agg #[.bool s', .slice a' (nd d') c', .int .i64 e']] w fun en w' =>
      en = .returned (.int .i64 (if d = 0 then e' else if d' = 0 then e else min e e')) ∧ Below w.heap.size w w' := by
  have HZ : Hd (∀ w, Calls Try.prog 85 #[.agg #[.bool s, .slice a (nd d) c, .int .i64 e]] w fun en w' => en = .returned (.bool (d == 0)) ∧ Below w.heap.size w w') := ⟨fun w => zero_any s a d c e w (by omega)⟩
  have HZ' : Hd (∀ w, Calls Try.prog 85 #[.agg #[.bool s', .slice a' (nd d') c', .int .i64 e']] w fun en w' => en = .returned (.bool (d' == 0)) ∧ Below w.heap.size w w') := ⟨fun w => zero_any s' a' d' c' e' w (by omega)⟩
  by_cases h0 : d = 0
  · rw [show (d == 0) = true by rw [beq_iff_eq]; exact h0] at HZ
    rw [if_pos h0]
    clear h0 HZ'
    go_enter Try.func102, Try.ntmps102
    go_wp2_with fail
    refine (HZ.out _).mono ?_; rintro en w' ⟨rfl, hb⟩
    have hk := cellb hb w.heap.size (by simp; omega)
    have hk2 := cellb hb (w.heap.size + 1) (by simp)
    have hz := hb.size
    simp at hz
    have HB : Hd (Below w.heap.size w w') := ⟨(((Below.refl _ _).alloc (Nat.le_refl _) _).alloc (by simp) _).trans (hb.mono (by simp; omega))⟩
    clear hb
    go_wp2_with fail
    go_ret
    exact ⟨rfl, HB.out⟩
  · rw [show (d == 0) = false by rw [beq_eq_false_iff_ne]; exact h0] at HZ
    rw [if_neg h0]
    clear h0
    by_cases h1 : d' = 0
    · rw [show (d' == 0) = true by rw [beq_iff_eq]; exact h1] at HZ'
      rw [if_pos h1]
      clear h1
      go_enter Try.func102, Try.ntmps102
      go_wp2_with fail
      refine (HZ.out _).mono ?_; rintro en w' ⟨rfl, hb⟩
      have hk := cellb hb w.heap.size (by simp; omega)
      have hk2 := cellb hb (w.heap.size + 1) (by simp)
      have hz := hb.size
      simp at hz
      have HB : Hd (Below w.heap.size w w') := ⟨(((Below.refl _ _).alloc (Nat.le_refl _) _).alloc (by simp) _).trans (hb.mono (by simp; omega))⟩
      clear hb
      go_wp2_with fail
      refine (HZ'.out _).mono ?_; rintro en w2 ⟨rfl, hb⟩
      have hk3 := cellb hb w.heap.size (by omega)
      have hk4 := cellb hb (w.heap.size + 1) (by omega)
      have hz2 := hb.size
      have HB2 : Hd (Below w.heap.size w w2) := ⟨HB.out.trans (hb.mono HB.out.size)⟩
      clear hb
      go_wp2_with fail
      go_ret
      exact ⟨rfl, HB2.out⟩
    · rw [show (d' == 0) = false by rw [beq_eq_false_iff_ne]; exact h1] at HZ'
      rw [if_neg h1]
      clear h1
      go_enter Try.func102, Try.ntmps102
      go_wp2_with fail
      refine (HZ.out _).mono ?_; rintro en w' ⟨rfl, hb⟩
      have hk := cellb hb w.heap.size (by simp; omega)
      have hk2 := cellb hb (w.heap.size + 1) (by simp)
      have hz := hb.size
      simp at hz
      have HB : Hd (Below w.heap.size w w') := ⟨(((Below.refl _ _).alloc (Nat.le_refl _) _).alloc (by simp) _).trans (hb.mono (by simp; omega))⟩
      clear hb
      go_wp2_with fail
      refine (HZ'.out _).mono ?_; rintro en w2 ⟨rfl, hb⟩
      have hk3 := cellb hb w.heap.size (by omega)
      have hk4 := cellb hb (w.heap.size + 1) (by omega)
      have hz2 := hb.size
      have HB2 : Hd (Below w.heap.size w w2) := ⟨HB.out.trans (hb.mono HB.out.size)⟩
      clear hb
      go_wp2_with fail
      go_ret
      exact ⟨rfl, HB2.out⟩

end Go.Proofs.Ytjhkjekbadbgnaa
