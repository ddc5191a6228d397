/- The walks of the reference's Sub and Mul. -/
import Derived.Test.YtjhkjekbadbgnaaAv
namespace Go.Proofs.Ytjhkjekbadbgnaa
open Go.RowKit
set_option linter.unusedSimpArgs false
set_option linter.unusedVariables false

theorem mnt_flip (v : Nat) : mnt (flip64 v) = mnt v := by unfold mnt; rw [mg_flip]
theorem exq_flip (v : Nat) : exq (flip64 v) = exq v := by unfold exq; rw [mg_flip]
theorem fin_flip (v : Nat) : fin (flip64 v) = fin v := by unfold fin; rw [mg_flip]
theorem inf_flip (v : Nat) : inf (flip64 v) = inf v := by unfold inf; rw [mg_flip]
theorem nn_flip (v : Nat) : nn (flip64 v) = nn v := by unfold nn; rw [mg_flip]

theorem fsub_flip (u v : Nat) (hv : F64 v) (h : nn v = false) : fadd u (flip64 v) = fsub u v := by
  unfold fadd fsub Ieee.Format.add Ieee.Format.sub
  have e : dbl.read (flip64 v) = (dbl.read v).opposite := by
    rcases ways v with ⟨n, i, f⟩ | ⟨n, i, f⟩ | ⟨n, i, f⟩
    · rw [h] at n; cases n
    · rw [read_infb v hv i, read_infb (flip64 v) (F64_flip v) (by rw [inf_flip]; exact i), ng_flip]; rfl
    · rw [read_fin v hv f, read_fin (flip64 v) (F64_flip v) (by rw [fin_flip]; exact f), ng_flip, mnt_flip, exq_flip]; rfl
  rw [e]
theorem fsub_nr (u v : Nat) (hv : F64 v) (h : nn v = true) : fsub u v = NaNc := by
  obtain ⟨s, t, r⟩ := read_nan v hv h
  unfold fsub Ieee.Format.sub; rw [r]; simp only [Ieee.Datum.opposite]; rw [sum_nan_r]; rfl

set_option maxHeartbeats 4000000 in
theorem rSub_any (u v : Nat) (hu : F64 u) (hv : F64 v) (w : World) :
    Calls Try.prog 61 #[.int .u64 u, .int .u64 v] w (URet (fsub u v) w) := by
  by_cases n2 : nn v = true
  · have HR : Hd (NaNc = fsub u v) := ⟨(fsub_nr u v hv n2).symm⟩
    unfold NaNc at HR
    generalize fsub u v = R at *
    go_enter Try.func61, Try.ntmps61
    go_wp2_with fail
    refine (rIsNaN_any _ hv _).mono ?_
    rintro en w' ⟨rfl, rfl⟩
    go_wp2_with fail
    go_ret
    exact ⟨ret_int (by have := HR.out; omega), Below.refl _ _⟩
  · have n2 : nn v = false := by simpa using n2
    have HR : Hd (fadd u (flip64 v) = fsub u v) := ⟨fsub_flip u v hv n2⟩
    have HA := Hd.mk (rAdd_any u (flip64 v) hu (F64_flip v))
    have HFl := Hd.mk (rFlip_any v hv)
    generalize fsub u v = R at *
    generalize fadd u (flip64 v) = R1 at *
    generalize flip64 v = v' at *
    go_enter Try.func61, Try.ntmps61
    go_wp2_with fail
    refine (rIsNaN_any _ hv _).mono ?_
    rintro en w' ⟨rfl, rfl⟩
    go_wp2_with fail
    refine (HFl.out _).mono ?_; rintro en w' ⟨rfl, rfl⟩
    go_wp2_with fail
    refine (HA.out _).mono ?_; rintro en w1 ⟨rfl, hb⟩
    have B1 := Hd.mk hb
    clear hb
    go_wp2_with fail
    go_ret
    exact ⟨ret_int (by have := HR.out; omega), B1.out⟩

theorem ng_bit (u : Nat) (hu : F64 u) : u.testBit 63 = ng u := by
  have h := hu.out
  rw [Nat.testBit_eq_decide_div_mod_eq]
  unfold ng
  rw [show (2 : Nat) ^ 63 = 9223372036854775808 by decide]
  by_cases h1 : 9223372036854775808 ≤ u
  · rw [decide_eq_true h1, decide_eq_true (by omega)]
  · rw [decide_eq_false h1, decide_eq_false (by omega)]

theorem sgw_bits (u v : Nat) (hu : F64 u) (hv : F64 v) : bits .and .u64 (bits .xor .u64 (u : Int) v) 9223372036854775808 = ((sgw u v : Nat) : Int) := by
  rw [u64_xor_nat u v hu.out hv.out]
  have hx : u ^^^ v < 18446744073709551616 := by
    have := Nat.xor_lt_two_pow (n := 64) (x := u) (y := v) (by have := hu.out; rw [show (2 : Nat) ^ 64 = 18446744073709551616 by decide]; exact this) (by have := hv.out; rw [show (2 : Nat) ^ 64 = 18446744073709551616 by decide]; exact this)
    rw [show (2 : Nat) ^ 64 = 18446744073709551616 by decide] at this
    exact this
  have := u64_and_nat (u ^^^ v) 9223372036854775808 hx (by decide)
  rw [show ((9223372036854775808 : Nat) : Int) = 9223372036854775808 from rfl] at this
  rw [this]
  congr 1
  refine Nat.eq_of_testBit_eq fun i => ?_
  rw [Nat.testBit_and, Nat.testBit_xor]
  unfold sgw
  by_cases hi : 63 = i
  · subst hi
    rw [ng_bit u hu, ng_bit v hv]
    cases ng u <;> cases ng v <;> decide
  · have e : Nat.testBit 9223372036854775808 i = false := by
      rw [show (9223372036854775808 : Nat) = 2 ^ 63 by decide, Nat.testBit_two_pow]; simp [hi]
    rw [e, Bool.and_false]
    split
    · exact e.symm
    · exact (Nat.zero_testBit i).symm

end Go.Proofs.Ytjhkjekbadbgnaa
