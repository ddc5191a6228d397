/- The walk of fn.Horner. -/
import Derived.Test.YtjhkjekbadbgnaaFr
import Derived.KernelRfl
namespace Go.Proofs.Ytjhkjekbadbgnaa
open Go.RowKit

/-- A slice of floats, told as a list. -/
structure Fls (w : World) (a : Option Addr) (l : List Nat) : Prop where
  nil : a = none → l = []
  cell : ∀ b o v, a = some ⟨b, o, v⟩ → ∀ i, i < l.length → v = none ∧ w.cell? ⟨b, o + i, none⟩ = some (.float .f64 (l.getD i 0))
  wf : ∀ i, F64 (l.getD i 0)
  len : l.length ≤ 9223372036854775807

/-- Horner's scheme, all NaNs taken for one. -/
def horn : List Nat → Nat → Nat
  | [], _ => 0
  | [c], _ => c
  | a :: b :: r, x => fadd (fmul (horn (b :: r) x) x) a

theorem horn_step (l : List Nat) (x j : Nat) (h : j + 1 < l.length) : horn (l.drop j) x = fadd (fmul (horn (l.drop (j + 1)) x) x) (l.getD j 0) := by
  rw [List.drop_eq_getElem_cons (by omega : j < l.length), List.drop_eq_getElem_cons h]
  simp [horn, List.getElem?_eq_getElem (by omega : j < l.length)]

theorem horn_last (l : List Nat) (x : Nat) (h : 0 < l.length) : horn (l.drop (l.length - 1)) x = l.getD (l.length - 1) 0 := by
  rw [List.drop_eq_getElem_cons (by omega : l.length - 1 < l.length), List.drop_of_length_le (by omega)]
  simp [horn, List.getElem?_eq_getElem (by omega : l.length - 1 < l.length)]

theorem cn_zero : cn 0 = 0 := by unfold cn nn mg INF; decide

set_option maxHeartbeats 800000 in
theorem horner_any (a : Option Addr) (l : List Nat) (c x : Nat) (hx : F64 x) (w : World) (hl : Fls w a l) :
    Calls Try.prog 26 #[.slice a l.length c, .float .f64 x] w (FRet (horn (l.map cn) (cn x)) w) := by
  by_cases h0 : l.length = 0
  · obtain rfl : l = [] := List.eq_nil_of_length_eq_zero h0
    go_enter Try.func26, Try.ntmps26
    go_wp2
    go_ret
    exact ⟨0, 0, rfl, ⟨by decide⟩, cn_zero, rfl⟩
  · obtain ⟨b, o, rfl⟩ : ∃ b o, a = some ⟨b, o, none⟩ := by
      cases a with
      | none => exact absurd (hl.nil rfl) (by intro h; rw [h] at h0; simp at h0)
      | some p => obtain ⟨b, o, v⟩ := p; obtain ⟨rfl, _⟩ := hl.cell b o v rfl 0 (by omega); exact ⟨b, o, rfl⟩
    have hcell : ∀ i, i < l.length → w.cell? ⟨b, o + i, none⟩ = some (.float .f64 (l.getD i 0)) := fun i hi => (hl.cell b o none rfl i hi).2
    have hpos : 0 < l.length := by omega
    have hlen := hl.len
    have hc0 : ((l.length : Int) == 0) = false := by rw [beq_eq_false_iff_ne]; omega
    have HC := Hd.mk hcell
    have HL := Hd.mk hl
    have hc1 : w.cell? ⟨b, o + (l.length - 1), none⟩ = some (.float .f64 (l.getD (l.length - 1) 0)) := hcell (l.length - 1) (by omega)
    clear hcell hl h0
    go_enter Try.func26, Try.ntmps26
    go_wp2
    go_loopw [5, 6] (fun p i wr => ∃ (j r n : Nat), j < l.length ∧ F64 r ∧ Hd (cn r = horn ((l.map cn).drop j) (cn x)) ∧ p = .float .f64 r ∧ i = .int .i64 ((j : Int) - 1) ∧ wr = w.drewN n) (fun _ i _ => (intOf i + 1).toNat)
    case atStart =>
      refine ⟨l.length - 1, l.getD (l.length - 1) 0, 0, by omega, HL.out.wf _, ⟨?_⟩, rfl, ?_, rfl⟩
      · have := horn_last (l.map cn) (cn x) (by simpa using hpos)
        rw [List.length_map] at this; rw [this]
        simp [List.getElem?_eq_getElem (by omega : l.length - 1 < l.length)]
      · congr 1; omega
    case round =>
      obtain ⟨j, r, n, hj, hr, HR, rfl, rfl, rfl⟩ := hrel
      by_cases hj0 : j = 0
      · subst hj0
        have H : Hd (cn r = horn (l.map cn) (cn x)) := HR
        go_wp2
        go_ret
        exact ⟨r, n, rfl, hr, H.out, rfl⟩
      · obtain ⟨k, rfl⟩ : ∃ k, j = k + 1 := ⟨j - 1, by omega⟩
        have hk : w.cell? ⟨b, o + k, none⟩ = some (.float .f64 (l.getD k 0)) := HC.out k (by omega)
        have HS := Hd.mk (horn_step (l.map cn) (cn x) k (by simpa using hj))
        go_wp2
        refine ⟨⟨k, _, _, by omega, F64_fres _ _ _ _, ⟨?_⟩, rfl, rfl, rfl⟩, by simp [intOf]⟩
        have hf : F64 (l.getD k 0) := HL.out.wf k
        have hd : (l.map cn).getD k 0 = cn (l.getD k 0) := by
          simp [List.getElem?_eq_getElem (by omega : k < l.length)]
        rw [HS.out, hd, ← HR.out, ← cn_fmul r x (w.drewN n) hr hx]
        exact cn_fadd _ _ _ (F64_fres _ _ _ _) hf

end Go.Proofs.Ytjhkjekbadbgnaa
