/- The walks of the reference's AddDigits, Len, CmpDigits, SubDigits. -/
import Derived.Test.YtjhkjekbadbgnaaDw
import Derived.Lib.MinMax
namespace Go.Proofs.Ytjhkjekbadbgnaa
open Go.RowKit
set_option linter.unusedSimpArgs false
set_option linter.unusedVariables false

theorem info_u64 : (Try.prog.info? 28).map (fun i => (i.zero, i.size, i.bytes)) = some (some (.int .u64 0), 1, 8) := by kernel_rfl

theorem make_u64 (n : Nat) (hn : n ≤ 35184372088832) (w : World) :
    (Instr.makeSlice 32 (.int .i64 (n : Int)) (.int .i64 (n : Int))).run Try.prog w = .ok (.slice (some ⟨w.heap.size, 0, none⟩) n n) (w.alloc (.cells (madeCells #[.int .u64 0] n) 28)) :=
  run_make_row' 32 28 (.int .u64 0) 8 Try.underlying32 info_u64 rfl .i64 .i64 n (by omega) (by omega) w

/-- A row that the call has made and filled. -/
structure Filled (w0 w : World) (b n : Nat) (f : Nat → Nat) : Prop where
  below : Below w0.heap.size w0 w
  own : w0.heap.size ≤ b
  row : w.rowIs b 28 n fun j => .int .u64 (f j)
  dig : ∀ j, f j < BB

theorem Filled.made (w : World) (n : Nat) : Filled w (w.alloc (.cells (madeCells #[.int .u64 0] n) 28)) w.heap.size n (fun _ => 0) where
  below := (Below.refl _ _).alloc (Nat.le_refl _) _
  own := Nat.le_refl _
  row := (World.rowIs_made w (.int .u64 0) n 28).congr fun i hi => rfl
  dig := fun j => by decide

theorem Filled.drewN {w0 w : World} {b n : Nat} {f : Nat → Nat} (h : Filled w0 w b n f) (k : Nat) : Filled w0 (w.drewN k) b n f where
  below := below_drewN h.below k
  own := h.own
  row := h.row
  dig := h.dig

theorem Filled.set {w0 w : World} {b n : Nat} {f : Nat → Nat} (h : Filled w0 w b n f) (i v : Nat) (hv : v < BB) : Filled w0 (w.setCell ⟨b, i, none⟩ (.int .u64 v)) b n (upd f i v) where
  below := h.below.setCell h.own _
  own := h.own
  row := (h.row.set i (.int .u64 v)).congr fun j hj => by
    unfold upd; by_cases e : j = i
    · rw [if_pos e, if_pos e]
    · rw [if_neg e, if_neg e]
  dig := fun j => by unfold upd; split; exact hv; exact h.dig j

theorem Filled.after {w0 w w' : World} {b n : Nat} {f : Nat → Nat} (h : Filled w0 w b n f) (hb : Below w.heap.size w w') : Filled w0 w' b n f where
  below := h.below.trans (hb.mono h.below.size)
  own := h.own
  row := h.row.of_block (hb.block b h.row.lt)
  dig := h.dig

/-- A filled row, trimmed, is handed back. -/
theorem filled_ret {w0 w : World} {b n z : Nat} {f : Nat → Nat} (h : Filled w0 w b n f) (hz : vl n f = z) {cp : Nat} (hcp : n ≤ cp) : DRet z w0 (.returned (.slice (some ⟨b, 0, none⟩) (nd z) cp)) w := by
  have hn : nd z ≤ n := by rw [← hz]; exact nd_le (vl_lt fun j _ => h.dig j)
  refine ⟨_, _, rfl, Nat.le_trans hn hcp, ⟨(fun e => by cases e), ?_⟩, h.below, fun b o v e => by cases e; exact h.own⟩
  intro b' o v e i hi
  cases e
  refine ⟨rfl, ?_⟩
  rw [Nat.zero_add, h.row.cell (by omega), vl_dig (fun j _ => h.dig j) i (by omega : i < n), hz]

theorem u64_in {s : Nat} (h : s < 18446744073709551616) : IntKind.u64.wrap (s : Int) = s := by rw [IntKind.wrap_u64]; omega

theorem tmod_BB (s : Nat) : Int.tmod (s : Int) 4294967296 = ((s % BB : Nat) : Int) := by
  rw [Int.tmod_eq_emod_of_nonneg (by omega)]; rfl
theorem tdiv_BB (s : Nat) : Int.tdiv (s : Int) 4294967296 = ((s / BB : Nat) : Int) := by
  rw [Int.tdiv_eq_ediv_of_nonneg (by omega)]; rfl

set_option maxHeartbeats 1600000 in
theorem addDigits_any (a : Option Addr) (x c : Nat) (a' : Option Addr) (y c' : Nat) (w : World) (h : Dgs w a x) (h' : Dgs w a' y) (hs : nd x ≤ 536870912) (hs' : nd y ≤ 536870912) :
    Calls Try.prog 104 #[.slice a (nd x) c, .slice a' (nd y) c'] w (DRet (x + y) w) := by
  obtain ⟨M, hM⟩ : ∃ M, max (nd x) (nd y) = M := ⟨_, rfl⟩
  have hmx : max (nd x : Int) (nd y : Int) = (M : Int) := by omega
  have hmk : ∀ w, (Instr.makeSlice 32 (.int .i64 ((M : Int) + 1)) (.int .i64 ((M : Int) + 1))).run Try.prog w = .ok (.slice (some ⟨w.heap.size, 0, none⟩) (M + 1) (M + 1)) (w.alloc (.cells (madeCells #[.int .u64 0] (M + 1)) 28)) := fun w => make_u64 (M + 1) (by omega) w
  have H := Hd.mk h
  have H' := Hd.mk h'
  have HM := Hd.mk hM
  have hnn : M ≤ 536870912 := by omega
  clear h h' hM
  go_enter Try.func104, Try.ntmps104
  go_wp2_with fail
  have F0 := Hd.mk (Filled.made w (M + 1))
  generalize (w.alloc (.cells (madeCells #[.int .u64 0] (M + 1)) 28)) = w1 at *
  generalize hb : w.heap.size = b at *
  have HB := Hd.mk hb
  clear hb hmk hmx
  go_loopw [7, 8] (fun cv i wr => ∃ (k cr : Nat) (f : Nat → Nat), k ≤ M + 1 ∧ i = .int .i64 k ∧ cv = .int .u64 cr ∧ cr < 4294967296 ∧ Hd (Filled w wr b (M + 1) f) ∧ Hd (∀ j, j < k → f j = dg (x + y) j) ∧ Hd (cr * BB ^ k + (x + y) % BB ^ k = x % BB ^ k + y % BB ^ k)) (fun _ i _ => M + 1 - (intOf i).toNat)
  case atStart => exact ⟨0, 0, _, Nat.zero_le _, rfl, rfl, by decide, F0, ⟨fun j hj => by omega⟩, ⟨by simp [Nat.mod_one]⟩⟩
  case round =>
    clear F0
    obtain ⟨k, cr, f, hk, rfl, rfl, hcr, HF, HD, HC⟩ := hrel
    have G := Hd.mk (H.out.below (HF.out.below))
    have G' := Hd.mk (H'.out.below (HF.out.below))
    by_cases hlt : k < M + 1
    · have hlt' : (k : Int) < (M : Int) + 1 := by omega
      have l1 := dg_lt x k
      have l2 := dg_lt y k
      have row := HF.out.row.cell hlt
      have frz := HF.out.row.frozen k
      go_wp2_with fail
      refine (digit_any a x c k _ G.out (by omega)).mono ?_; rintro e w' ⟨rfl, rfl⟩
      go_wp2_with fail
      refine (digit_any a' y c' k _ G'.out (by omega)).mono ?_; rintro e w' ⟨rfl, rfl⟩
      go_wp2_with fail
      obtain ⟨s1, s2⟩ := add_step x y cr k HC.out
      have v1 : ((dg x k : Int) + dg y k + cr) % 4294967296 = ((dg (x + y) k : Nat) : Int) := by rw [← s1]; rfl
      have v2 : ((dg x k : Int) + dg y k + cr) / 4294967296 = (((dg x k + dg y k + cr) / BB : Nat) : Int) := rfl
      rw [v1, v2]
      refine ⟨⟨k + 1, _, _, by omega, by go_num, rfl, by omega, ⟨HF.out.set k _ (dg_lt _ _)⟩, ⟨fun j hj => ?_⟩, ⟨s2⟩⟩, by simp [intOf]; omega⟩
      unfold upd
      by_cases e : j = k
      · rw [if_pos e, e]
      · rw [if_neg e]; exact HD.out j (by omega)
    · obtain rfl : k = M + 1 := by omega
      have hz : vl (M + 1) f = x + y := by
        rw [vl_congr HD.out, vl_dg]
        refine Nat.mod_eq_of_lt ?_
        have h1 : x < BB ^ M := Nat.lt_of_lt_of_le (lt_nd x) (Nat.pow_le_pow_right (by decide) (by have := HM.out; omega))
        have h2 : y < BB ^ M := Nat.lt_of_lt_of_le (lt_nd y) (Nat.pow_le_pow_right (by decide) (by have := HM.out; omega))
        rw [Nat.pow_succ, show BB ^ M * BB = BB ^ M * 4294967296 from rfl]; omega
      go_wp2_with fail
      refine (trim_row b (M + 1) (M + 1) (x + y) f _ (by omega) (Nat.le_refl _) (fun j _ => HF.out.dig j) hz HF.out.row).mono ?_
      have HZ := Hd.mk hz
      clear hz
      rintro e w' ⟨q, rfl, rfl⟩
      go_wp2_with fail
      go_ret
      exact filled_ret (HF.out.drewN q) HZ.out (Nat.le_refl _)

end Go.Proofs.Ytjhkjekbadbgnaa
