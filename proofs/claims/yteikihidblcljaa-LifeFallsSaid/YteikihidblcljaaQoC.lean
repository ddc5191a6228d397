/- The walk of the reference's Same (tenorref11). -/
import Derived.Test.YteikihidblcljaaQnC
import Derived.Deep.QuietTactic
import Derived.BigQuiet
namespace Go.Proofs.Yteikihidblcljaa
open Go.RowKit
set_option linter.unusedSimpArgs false
set_option linter.unusedVariables false

theorem below_dN {B : Nat} {w w' : World} (h : Below B w w') (q : Nat) : Below B w (w'.drewN q) := h.trans ⟨rfl, rfl, rfl, Nat.le_refl _, fun _ _ => rfl⟩
theorem box_cvv (w : World) (ba kind : Int) (ax : Option Addr) (nx cx : Nat) (ay : Option Addr) (ny cy : Nat) (ax' : Option Addr) (cx' : Nat) (ay' : Option Addr) (cy' : Nat) :
    ∃ W, ((w.alloc (.cells #[.int .i64 ba, .int .i64 kind, .slice ax nx cx, .slice ay ny cy] 82)).alloc (.cells #[.int .i64 ba, .int .i64 kind, .slice ax' nx cx', .slice ay' ny cy'] 84)) = W ∧
      BoxC W w.heap.size ba kind ax nx cx ay ny cy ∧ BoxV W (w.heap.size + 1) ba kind ax' nx cx' ay' ny cy' ∧ Below w.heap.size w W := by
  refine ⟨_, rfl, ?_, ?_, ((Below.refl _ _).alloc (Nat.le_refl _) _).alloc (World.alloc_size_le _ _) _⟩
  · unfold BoxC World.alloc; (try simp [Array.getElem?_push, Array.getElem_push]); all_goals (try omega)
  · unfold BoxV World.alloc; simp [Array.getElem?_push, Array.getElem_push]

set_option maxHeartbeats 6400000 in
set_option maxRecDepth 100000 in
theorem same11_any (ba kind : Int) (ax : Option Addr) (X : List Int) (cx : Nat) (ay : Option Addr) (Y : List Nat) (cy : Nat) (ax' : Option Addr) (cx' : Nat) (au : Option Addr) (cu : Nat) (w : World) (ht : Tbl w ax X ay Y) (hx : Ins w ax' X) (hu : Us w au Y) :
    Calls Try.prog 44 #[.agg #[.int .i64 ba, .int .i64 kind, .slice ax X.length cx, .slice ay Y.length cy], .agg #[.int .i64 ba, .int .i64 kind, .slice ax' X.length cx', .slice au Y.length cu]] w fun e w' => e = .returned (.bool true) ∧ Below w.heap.size w w' := by
  have lx := ht.ix.len
  have ly := ht.fy.len
  obtain ⟨n, hn⟩ : ∃ n, X.length = n := ⟨_, rfl⟩
  obtain ⟨m, hm⟩ : ∃ m, Y.length = m := ⟨_, rfl⟩
  have HN := Hd.mk hn
  have HM := Hd.mk hm
  rw [hn, hm]
  rw [hn] at lx
  rw [hm] at ly
  obtain ⟨W, hW, b1, b2, b3⟩ := box_cvv w ba kind ax n cx ay m cy ax' cx' au cu
  have HW := Hd.mk hW
  have HT := Hd.mk (ht.belowK b3)
  have HX := Hd.mk (hx.belowK b3)
  have HU := Hd.mk (hu.below b3)
  have B3 := Hd.mk b3
  have U1 := Hd.mk b1
  have U2 := Hd.mk b2
  clear hW b1 b2 b3 hn hm ht hx hu
  obtain ⟨p0, p1, p2, p3⟩ := U1.out.cell
  obtain ⟨q0, q1, q2, q3⟩ := U2.out.cell
  go_enter Try.func44, Try.ntmps44
  go_upto_region 1 with fail
  rw [HW.out]
  go_wp2_with fail
  have K0 : Hd (Below W.heap.size W W) := ⟨Below.refl _ _⟩
  go_loopw [5] (fun iv wr => ∃ k : Nat, k ≤ n ∧ iv = .int .i64 k ∧ Hd (Below W.heap.size W wr)) (fun iv _ => n - (intOf iv).toNat)
  case atStart => exact ⟨0, Nat.zero_le _, rfl, K0⟩
  case round =>
    clear K0 p0 p1 p2 p3 q0 q1 q2 q3
    obtain ⟨k, hk, rfl, KB⟩ := hrel
    obtain ⟨p0, p1, p2, p3⟩ := (U1.out.below KB.out).cell
    obtain ⟨q0, q1, q2, q3⟩ := (U2.out.below KB.out).cell
    by_cases hlt : k < n
    · have hlt' : (k : Int) < n := by omega
      have k0 : (0 : Int) ≤ k := by omega
      obtain ⟨b1, o1, rfl, c1⟩ := (HT.out.belowK KB.out).ix.cell k (by rw [HN.out]; exact hlt)
      obtain ⟨b2, o2, rfl, c2⟩ := (HX.out.belowK KB.out).cell k (by rw [HN.out]; exact hlt)
      have e0 : (X.getD k 0 != X.getD k 0) = false := by simp
      have KB2 := Hd.mk fun q => below_dN KB.out q
      generalize X.getD k 0 = x at *
      clear hlt KB
      go_wp2_with fail
      go_quiet (fail)
      go_wp2_with fail
      exact ⟨⟨k + 1, by omega, by go_num, ⟨KB2.out _⟩⟩, by simp [intOf]; omega⟩
    · obtain rfl : n = k := by omega
      have hge : ¬ (n : Int) < n := by omega
      clear hlt
      go_wp2_with fail
      have K0 := KB
      clear KB p0 p1 p2 p3 q0 q1 q2 q3
      go_loopw [6] (fun iv wr => ∃ k : Nat, k ≤ m ∧ iv = .int .i64 k ∧ Hd (Below W.heap.size W wr)) (fun iv _ => m - (intOf iv).toNat)
      case atStart => exact ⟨0, Nat.zero_le _, rfl, K0⟩
      case round =>
        clear K0
        obtain ⟨k, hk, rfl, KB⟩ := hrel
        obtain ⟨p0, p1, p2, p3⟩ := (U1.out.below KB.out).cell
        obtain ⟨q0, q1, q2, q3⟩ := (U2.out.below KB.out).cell
        by_cases hlt : k < m
        · have hlt' : (k : Int) < m := by omega
          have k0 : (0 : Int) ≤ k := by omega
          obtain ⟨b1, o1, rfl, c1⟩ := (HT.out.belowK KB.out).fy.at k (by rw [HM.out]; exact hlt)
          obtain ⟨b2, o2, rfl, c2⟩ := (HU.out.below KB.out).at k (by rw [HM.out]; exact hlt)
          have e0 : ((Y.getD k 0 : Nat) : Int) = ((Y.getD k 0 : Nat) : Int) := rfl
          have KB2 := Hd.mk fun q => below_dN KB.out q
          generalize Y.getD k 0 = x at *
          have e1 : (((x : Nat) : Int) != ((x : Nat) : Int)) = false := by simp
          have HBit := Hd.mk (apiBits_any x)
          clear hlt KB e0
          go_wp2_with fail
          go_quiet (first | (go_at_call 12; exact Calls.quiet_of_same ((HBit.out _).mono fun _ _ h => ⟨h.1, h.2.symm⟩)))
          go_wp2_with fail
          exact ⟨⟨k + 1, by omega, by go_num, ⟨KB2.out _⟩⟩, by simp [intOf]; omega⟩
        · obtain rfl : m = k := by omega
          have hge : ¬ (m : Int) < m := by omega
          clear hlt
          go_wp2_with fail
          go_ret
          exact ⟨rfl, B3.out.trans (KB.out.mono B3.out.size)⟩

end Go.Proofs.Yteikihidblcljaa
