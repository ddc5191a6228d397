/- The walks of the reference's digits: digit, trim, AddDigits .. -/
import Derived.Test.YtjhkjekbadbgnaaDg
import Derived.Test.YtjhkjekbadbgnaaIe
import Derived.Deep.OwnRows
import Derived.Deep.LoopGhost
import Derived.Deep.QuietTactic
import Derived.BigQuiet
import Derived.WalkSmall
namespace Go.Proofs.Ytjhkjekbadbgnaa
open Go.RowKit
set_option linter.unusedSimpArgs false
set_option linter.unusedVariables false

/-- A slice of digits, told as a number. -/
structure Dgs (w : World) (a : Option Addr) (x : Nat) : Prop where
  nil : a = none → x = 0
  cell : ∀ b o v, a = some ⟨b, o, v⟩ → ∀ i, i < nd x → v = none ∧ w.cell? ⟨b, o + i, none⟩ = some (.int .u64 (dg x i))

theorem Dgs.keep {w w' : World} {a : Option Addr} {x : Nat} (h : Dgs w a x) (hb : ∀ b o v, w.cell? ⟨b, o, none⟩ = some v → w'.cell? ⟨b, o, none⟩ = some v) : Dgs w' a x :=
  ⟨h.nil, fun b o v e i hi => ⟨(h.cell b o v e i hi).1, hb _ _ _ (h.cell b o v e i hi).2⟩⟩
theorem Dgs.below {w w' : World} {a : Option Addr} {x : Nat} (h : Dgs w a x) (hb : Below w.heap.size w w') : Dgs w' a x :=
  h.keep fun b o v hc => by rw [hb.cell (p := ⟨b, o, none⟩) (World.block_lt_of_cell? _ _ hc), hc]
theorem Dgs.zero (w : World) : Dgs w none 0 := ⟨fun _ => rfl, fun _ _ _ h => by cases h⟩
theorem Dgs.some {w : World} {a : Option Addr} {x : Nat} (h : Dgs w a x) (hp : 0 < nd x) : ∃ b o, a = Option.some ⟨b, o, none⟩ := by
  cases a with
  | none => have := h.nil rfl; rw [this] at hp; simp [nd] at hp
  | some p => obtain ⟨b, o, v⟩ := p; obtain ⟨rfl, _⟩ := h.cell b o v rfl 0 hp; exact ⟨b, o, rfl⟩

/-- It returns the digits of z. -/
def DRet (z : Nat) (w : World) (e : Ending) (w' : World) : Prop := ∃ a c, e = .returned (.slice a (nd z) c) ∧ nd z ≤ c ∧ Dgs w' a z ∧ Below w.heap.size w w' ∧ ∀ b o v, a = some ⟨b, o, v⟩ → w.heap.size ≤ b

set_option maxHeartbeats 800000 in
theorem digit_any (a : Option Addr) (x c : Nat) (i : Nat) (w : World) (h : Dgs w a x) (hs : nd x ≤ 1073741824) :
    Calls Try.prog 87 #[.slice a (nd x) c, .int .i64 i] w fun e w' => e = .returned (.int .u64 (dg x i)) ∧ w = w' := by
  have h0 : (0 : Int) ≤ i := by omega
  have d0 : decide ((i : Int) < 0) = false := by simp
  by_cases hi : i < nd x
  · obtain ⟨b, o, rfl⟩ := h.some (by omega)
    have hc := (h.cell b o none rfl i hi).2
    have d1 : decide ((nd x : Int) ≤ i) = false := by simp; omega
    have h2 : (i : Int) < nd x := by omega
    clear h
    go_enter Try.func87, Try.ntmps87
    go_wp2
    go_ret
    exact ⟨rfl, rfl⟩
  · have hd : Hd (0 = dg x i) := ⟨(dg_high (by omega)).symm⟩
    have d1 : decide (nd x ≤ i) = true := by simp; omega
    clear h hi
    go_enter Try.func87, Try.ntmps87
    go_wp2
    go_ret
    exact ⟨ret_int (by rw [← hd.out]; rfl), rfl⟩

/-- trim, of a row that the call has made: n cells that hold the digits f. -/
theorem trim_row (b n cp z : Nat) (f : Nat → Nat) (w : World) (hn : n ≤ 4294967296) (hcp : n ≤ cp) (hf : ∀ j, j < n → f j < BB) (hz : vl n f = z) (hr : w.rowIs b 28 n fun j => .int .u64 (f j)) :
    Calls Try.prog 101 #[.slice (some ⟨b, 0, none⟩) n cp] w (fun e w' => ∃ k, e = .returned (.slice (some ⟨b, 0, none⟩) (nd z) cp) ∧ w' = w.drewN k) := by
  have HF := Hd.mk hf
  have HR := Hd.mk hr
  have HZ := Hd.mk hz
  clear hf hr hz
  go_enter Try.func101, Try.ntmps101
  go_wp2
  go_loopw [3] (fun v wr => ∃ (m k : Nat), m ≤ n ∧ v = .int .i64 m ∧ Hd (vl m f = z) ∧ wr = w.drewN k) (fun v _ => (intOf v).toNat)
  case atStart => exact ⟨n, 0, Nat.le_refl _, rfl, HZ, rfl⟩
  case round =>
    obtain ⟨m, k, hm, rfl, HV, rfl⟩ := hrel
    by_cases h0 : m = 0
    · subst h0
      have hz : Hd (nd z = 0) := ⟨by rw [← HV.out]; rfl⟩
      go_wp2
      go_ret
      exact ⟨k, by rw [hz.out]; rfl, rfl⟩
    · have h1 : (0 : Int) < m := by omega
      have hc : w.cell? ⟨b, m - 1, none⟩ = some (.int .u64 (f (m - 1))) := HR.out.cell (by omega)
      by_cases hd : f (m - 1) = 0
      · have hd' : ((f (m - 1) : Int) == 0) = true := by rw [beq_iff_eq]; omega
        clear hd
        go_wp2
        refine ⟨⟨m - 1, k, by omega, by congr 1; omega, ⟨?_⟩, rfl⟩, by simp [intOf]; omega⟩
        rw [← HV.out]
        obtain ⟨q, rfl⟩ : ∃ q, m = q + 1 := ⟨m - 1, by omega⟩
        have : f q = 0 := by simpa using hd'
        rw [vl, Nat.add_sub_cancel, this]; simp
      · have hd' : ((f (m - 1) : Int) == 0) = false := by rw [beq_eq_false_iff_ne]; omega
        have hz : Hd (nd z = m) := ⟨by
          have h2 : ∀ j, j < m → f j < BB := fun j hj => HF.out j (by omega)
          refine nd_of ?_ (by omega) ?_
          · rw [← HV.out]; exact vl_lt h2
          · rw [← HV.out, ← vl_dig h2 (m - 1) (by omega)]; exact hd⟩
        clear hd
        go_wp2
        go_ret
        exact ⟨k, by rw [hz.out]; rfl, rfl⟩

end Go.Proofs.Ytjhkjekbadbgnaa
