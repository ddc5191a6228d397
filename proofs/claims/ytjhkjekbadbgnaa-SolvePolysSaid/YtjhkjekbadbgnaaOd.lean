/- SolveOdd: the function in no order, the search's begin, and the two searches side by side. -/
import Derived.Test.YtjhkjekbadbgnaaSe
import Derived.Test.YtjhkjekbadbgnaaAw
import Derived.Laws.Bits64
import Derived.StillTailTactics
namespace Go.Proofs.Ytjhkjekbadbgnaa
open Go.RowKit
set_option linter.unusedSimpArgs false
set_option linter.unusedVariables false

/-- The mixed bits. -/
def oddV1 (u by_ : Nat) : Nat := ((u + by_) % 18446744073709551616) * 11400714819323198485 % 18446744073709551616
def oddV (u by_ : Nat) : Nat := (oddV1 u by_ ^^^ oddV1 u by_ / 536870912) * 13787848793156543929 % 18446744073709551616
def oddB (u by_ : Nat) : Nat :=
  if oddV u by_ / 1099511627776 % 97 = 0 then 0
  else if oddV u by_ / 1099511627776 % 97 = 1 ∧ by_ % 5 = 0 then 9221120237041090561
  else if oddV u by_ / 2199023255552 % 2 = 0 then 13830554455654793216 else 4607182418800017408

theorem F64_oddB (u by_ : Nat) : F64 (oddB u by_) := by
  unfold oddB; repeat' split
  all_goals exact ⟨by decide⟩
theorem cn_oddB (u by_ : Nat) : cn (oddB u by_) = oddB u by_ := by
  unfold oddB; repeat' split
  all_goals (unfold cn nn mg INF NaNc; decide)

theorem odd_e1 (u by_ : Nat) : IntKind.u64.wrap (IntKind.u64.wrap ((u : Int) + by_) * 11400714819323198485) = (oddV1 u by_ : Nat) := by
  unfold oddV1; rw [IntKind.wrap_u64, IntKind.wrap_u64, Int.natCast_emod, Int.natCast_mul, Int.natCast_emod, Int.natCast_add]; rfl
theorem oddV1_lt (u by_ : Nat) : oddV1 u by_ < 18446744073709551616 := Nat.mod_lt _ (by decide)
theorem oddV_lt (u by_ : Nat) : oddV u by_ < 18446744073709551616 := Nat.mod_lt _ (by decide)
theorem odd_e2 (u by_ : Nat) : IntKind.u64.wrap (bits .xor .u64 (oddV1 u by_ : Int) ((oddV1 u by_ : Int) / 536870912) * 13787848793156543929) = (oddV u by_ : Nat) :=
  mixStep_u64 (oddV1 u by_) 536870912 13787848793156543929 (oddV1_lt u by_)

set_option maxHeartbeats 400000 in
theorem tenorNaN_any (w : World) :
    Calls Try.prog 45 #[] w fun e w' => e = .returned (.float .f64 9221120237041090561) ∧ w = w' := by
  go_enter Try.func45, Try.ntmps45
  go_wp2_with fail
  refine (apiFloat_any _ _).mono ?_; rintro e w' ⟨rfl, rfl⟩
  go_wp2_with fail
  go_ret
  exact ⟨rfl, rfl⟩

set_option maxHeartbeats 1600000 in
theorem odd_any (u by_ : Nat) (w : World) :
    Calls Try.prog 23 #[.int .u64 u, .int .u64 by_] w fun e w' => e = .returned (.float .f64 (oddB u by_)) ∧ w = w' := by
  have e1 := odd_e1 u by_
  have e2 := odd_e2 u by_
  have l1 := oddV1_lt u by_
  have l2 := oddV_lt u by_
  clear l1 l2
  have V0 : ((oddV u by_ : Nat) : Int) / 1099511627776 % 97 = ((oddV u by_ / 1099511627776 % 97 : Nat) : Int) := by omega
  have V1 : ((oddV u by_ : Nat) : Int) / 2199023255552 % 2 = ((oddV u by_ / 2199023255552 % 2 : Nat) : Int) := by omega
  have B0 : (by_ : Int) % 5 = ((by_ % 5 : Nat) : Int) := by omega
  by_cases c0 : oddV u by_ / 1099511627776 % 97 = 0
  · have d0 : (((oddV u by_ : Nat) : Int) / 1099511627776 % 97 == 0) = true := by rw [beq_iff_eq]; omega
    have H : Hd (0 = oddB u by_) := ⟨by unfold oddB; rw [if_pos c0]⟩
    clear V0 V1 B0 c0
    go_enter Try.func23, Try.ntmps23
    go_wp2_with (go_at_call 45; refine (tenorNaN_any _).mono ?_; rintro e w' ⟨rfl, rfl⟩)
    go_ret
    exact ⟨ret_float H.out, rfl⟩
  have d0 : (((oddV u by_ : Nat) : Int) / 1099511627776 % 97 == 0) = false := by rw [beq_eq_false_iff_ne]; omega
  by_cases c1 : oddV u by_ / 1099511627776 % 97 = 1
  · have d1 : (((oddV u by_ : Nat) : Int) / 1099511627776 % 97 == 1) = true := by rw [beq_iff_eq]; omega
    by_cases c2 : by_ % 5 = 0
    · have d2 : ((by_ : Int) % 5 == 0) = true := by rw [beq_iff_eq]; omega
      have H : Hd (9221120237041090561 = oddB u by_) := ⟨by unfold oddB; rw [if_neg c0, if_pos ⟨c1, c2⟩]⟩
      clear V0 V1 B0 c0 c1 c2
      go_enter Try.func23, Try.ntmps23
      go_wp2_with (go_at_call 45; refine (tenorNaN_any _).mono ?_; rintro e w' ⟨rfl, rfl⟩)
      go_ret
      exact ⟨ret_float H.out, rfl⟩
    · have d2 : ((by_ : Int) % 5 == 0) = false := by rw [beq_eq_false_iff_ne]; omega
      by_cases c3 : oddV u by_ / 2199023255552 % 2 = 0
      · have d3 : (((oddV u by_ : Nat) : Int) / 2199023255552 % 2 == 0) = true := by rw [beq_iff_eq]; omega
        have H : Hd (13830554455654793216 = oddB u by_) := ⟨by unfold oddB; rw [if_neg c0, if_neg (fun h => c2 h.2), if_pos c3]⟩
        clear V0 V1 B0 c0 c1 c2 c3
        go_enter Try.func23, Try.ntmps23
        go_wp2_with (go_at_call 45; refine (tenorNaN_any _).mono ?_; rintro e w' ⟨rfl, rfl⟩)
        go_ret
        exact ⟨ret_float H.out, rfl⟩
      · have d3 : (((oddV u by_ : Nat) : Int) / 2199023255552 % 2 == 0) = false := by rw [beq_eq_false_iff_ne]; omega
        have H : Hd (4607182418800017408 = oddB u by_) := ⟨by unfold oddB; rw [if_neg c0, if_neg (fun h => c2 h.2), if_neg c3]⟩
        clear V0 V1 B0 c0 c1 c2 c3
        go_enter Try.func23, Try.ntmps23
        go_wp2_with (go_at_call 45; refine (tenorNaN_any _).mono ?_; rintro e w' ⟨rfl, rfl⟩)
        go_ret
        exact ⟨ret_float H.out, rfl⟩
  · have d1 : (((oddV u by_ : Nat) : Int) / 1099511627776 % 97 == 1) = false := by rw [beq_eq_false_iff_ne]; omega
    by_cases c3 : oddV u by_ / 2199023255552 % 2 = 0
    · have d3 : (((oddV u by_ : Nat) : Int) / 2199023255552 % 2 == 0) = true := by rw [beq_iff_eq]; omega
      have H : Hd (13830554455654793216 = oddB u by_) := ⟨by unfold oddB; rw [if_neg c0, if_neg (fun h => c1 h.1), if_pos c3]⟩
      clear V0 V1 B0 c0 c1 c3
      go_enter Try.func23, Try.ntmps23
      go_wp2_with (go_at_call 45; refine (tenorNaN_any _).mono ?_; rintro e w' ⟨rfl, rfl⟩)
      go_ret
      exact ⟨ret_float H.out, rfl⟩
    · have d3 : (((oddV u by_ : Nat) : Int) / 2199023255552 % 2 == 0) = false := by rw [beq_eq_false_iff_ne]; omega
      have H : Hd (4607182418800017408 = oddB u by_) := ⟨by unfold oddB; rw [if_neg c0, if_neg (fun h => c1 h.1), if_neg c3]⟩
      clear V0 V1 B0 c0 c1 c3
      go_enter Try.func23, Try.ntmps23
      go_wp2_with (go_at_call 45; refine (tenorNaN_any _).mono ?_; rintro e w' ⟨rfl, rfl⟩)
      go_ret
      exact ⟨ret_float H.out, rfl⟩

set_option maxHeartbeats 800000 in
theorem odd1_any (y by_ bb : Nat) (w : World) (hc : w.cell? ⟨bb, 0, none⟩ = some (.int .u64 by_)) :
    Calls Try.prog 22 #[.float .f64 y, .pointer (some ⟨bb, 0, none⟩)] w (fun e w' => ∃ n, e = .returned (.float .f64 (oddB y by_)) ∧ w' = w.drewN n) := by
  go_enter Try.func22, Try.ntmps22
  go_wp2_with fail
  go_quiet ((first | (go_at_call 18; exact Calls.quiet_of_same ((apiBits_any _ _).mono fun _ _ h => ⟨h.1, h.2.symm⟩)) | (go_at_call 23; exact Calls.quiet_of_same ((odd_any _ _ _).mono fun _ _ h => ⟨h.1, h.2.symm⟩))))
  go_wp2_with fail
  go_ret
  exact ⟨nq, rfl, rfl⟩

end Go.Proofs.Ytjhkjekbadbgnaa
