/- The walk of the reference's ShiftDown. -/
import Derived.Test.YtjhkjekbadbgnaaDu
import Derived.StillTailTactics
namespace Go.Proofs.Ytjhkjekbadbgnaa
open Go.RowKit
set_option linter.unusedSimpArgs false
set_option linter.unusedVariables false

/-- Not 0. -/
def nz (x : Nat) : Bool := !(x == 0)
theorem nz_t {x : Nat} (h : x ≠ 0) : nz x = true := by simp [nz, h]
theorem nz_f {x : Nat} (h : x = 0) : nz x = false := by simp [nz, h]
theorem nz_iff {x : Nat} : nz x = true ↔ x ≠ 0 := by simp [nz]

/-- It returns digits and a Bool. -/
def D2Ret (z : Nat) (l : Bool) (w : World) (e : Ending) (w' : World) : Prop := ∃ a c, e = .returned (.tuple #[.slice a (nd z) c, .bool l]) ∧ nd z ≤ c ∧ Dgs w' a z ∧ Below w.heap.size w w' ∧ ∀ b o v, a = some ⟨b, o, v⟩ → w.heap.size ≤ b

theorem dn_dig (x q r i : Nat) (hr : r < 32) : (dg x (i + q) + dg x (i + q + 1) * BB) / 2 ^ r % BB = dg (x / 2 ^ (32 * q + r)) i := by
  have e : BB = 2 ^ r * 2 ^ (32 - r) := by rw [← Nat.pow_add, show r + (32 - r) = 32 by omega]
  have h1 : dg x (i + q) + dg x (i + q + 1) * BB = x / BB ^ (i + q) % (2 ^ r * (2 ^ (32 - r) * BB)) := by
    rw [← Nat.mul_assoc, ← e]
    have := Nat.mod_mul (x := x / BB ^ (i + q)) (a := BB) (b := BB)
    rw [this]
    unfold dg
    rw [Nat.pow_succ, Nat.div_div_eq_div_mul, Nat.mul_comm BB (_ % BB)]
  rw [h1, Nat.mod_mul_right_div_self, Nat.mod_mod_of_dvd _ (Nat.dvd_mul_left _ _)]
  unfold dg
  rw [Nat.div_div_eq_div_mul, Nat.div_div_eq_div_mul]
  congr 2
  rw [Nat.pow_add, Nat.pow_add 2, BB_pow q]
  simp only [Nat.mul_assoc, Nat.mul_comm, Nat.mul_left_comm]

theorem dn_low (x q r : Nat) (hr : r < 32) : x % 2 ^ (32 * q + r) = x % BB ^ q + BB ^ q * (dg x q % 2 ^ r) := by
  rw [Nat.pow_add, ← BB_pow, Nat.mod_mul]
  unfold dg
  rw [Nat.mod_mod_of_dvd _ (by rw [show BB = 2 ^ 32 from rfl]; exact Nat.pow_dvd_pow 2 (by omega))]

theorem dn_lost (x q r : Nat) (hr : r < 32) (h : x % BB ^ q = 0) : nz (x % 2 ^ (32 * q + r)) = nz (dg x q % 2 ^ r) := by
  rw [dn_low x q r hr, h, Nat.zero_add]
  have hb := BB_pos q
  by_cases h0 : dg x q % 2 ^ r = 0
  · rw [h0]; rfl
  · rw [nz_t h0, nz_t (Nat.mul_ne_zero (by omega) h0)]
theorem dn_lost1 (x q r : Nat) (hr : r < 32) (h : x % BB ^ q ≠ 0) : nz (x % 2 ^ (32 * q + r)) = true := by
  rw [dn_low x q r hr]
  generalize BB ^ q * (dg x q % 2 ^ r) = z
  generalize x % BB ^ q = y at *
  exact nz_t (by omega)
theorem lost_step (x i : Nat) (h : x % BB ^ i = 0) : nz (x % BB ^ (i + 1)) = nz (dg x i) := by
  rw [mod_succ, h, Nat.zero_add]
  have hb := BB_pos i
  by_cases h0 : dg x i = 0
  · rw [h0, Nat.zero_mul]
  · rw [nz_t h0, nz_t (Nat.mul_ne_zero h0 (by omega))]
theorem lost_step1 (x i : Nat) (h : x % BB ^ i ≠ 0) : nz (x % BB ^ (i + 1)) = true := by
  rw [mod_succ]
  generalize dg x i * BB ^ i = z
  generalize x % BB ^ i = y at *
  exact nz_t (by omega)
theorem bne_nz (d : Nat) : ((d : Int) != 0) = nz d := by
  by_cases h : d = 0
  · subst h; rfl
  · rw [nz_t h, bne_iff_ne]; omega

theorem Filled.made' (w : World) (k n : Nat) : Filled w ((w.drewN k).alloc (.cells (madeCells #[.int .u64 0] n) 28)) w.heap.size n (fun _ => 0) where
  below := (below_drewN (Below.refl _ _) k).alloc (Nat.le_refl _) _
  own := Nat.le_refl _
  row := (World.rowIs_made (w.drewN k) (.int .u64 0) n 28).congr fun i hi => rfl
  dig := fun j => by decide

theorem Filled.drew {w0 w : World} {b n : Nat} {f : Nat → Nat} (h : Filled w0 w b n f) : Filled w0 w.drew b n f where
  below := h.below.drew
  own := h.own
  row := h.row
  dig := h.dig

theorem ret2_bool {a b : Bool} {v : Value} (h : a = b) : Ending.returned (.tuple #[v, .bool a]) = .returned (.tuple #[v, .bool b]) := by rw [h]

/-- A filled row, trimmed, is handed back beside a Bool. -/
theorem filled_ret2 {w0 w : World} {b n z : Nat} {f : Nat → Nat} {l l' : Bool} (h : Filled w0 w b n f) (hz : vl n f = z) {cp : Nat} (hcp : n ≤ cp) (hl : l = l') : D2Ret z l' w0 (.returned (.tuple #[.slice (some ⟨b, 0, none⟩) (nd z) cp, .bool l])) w := by
  subst hl
  obtain ⟨a, c, h1, h2, h3, h4, h5⟩ := filled_ret h hz hcp
  cases h1
  exact ⟨_, _, rfl, h2, h3, h4, h5⟩

set_option maxHeartbeats 4000000 in
set_option maxRecDepth 100000 in
theorem shiftDown_any (a : Option Addr) (x c n : Nat) (w : World) (h : Dgs w a x) (hs : nd x ≤ 536870912) (hn : n ≤ 536870912) :
    Calls Try.prog 88 #[.slice a (nd x) c, .int .i64 n] w (D2Ret (x / 2 ^ n) (nz (x % 2 ^ n)) w) := by
  by_cases hbig : 32 * nd x ≤ n
  · obtain ⟨N, hN⟩ : ∃ N, nd x = N := ⟨_, rfl⟩
    have hx : x < 2 ^ n := Nat.lt_of_lt_of_le (lt_nd x) (by rw [BB_pow]; exact Nat.pow_le_pow_right (by decide) hbig)
    rw [hN] at hs hbig ⊢
    have d0 : (32 : Int) * N ≤ n := by omega
    have hs1 : (32 : Int) * N ≤ 17179869184 := by omega
    have HR : Hd (D2Ret (x / 2 ^ n) (nz (x % 2 ^ n)) w (.returned (.tuple #[.slice none 0 0, .bool (decide (0 < N))])) w) := ⟨by
      rw [Nat.div_eq_of_lt hx, Nat.mod_eq_of_lt hx]
      refine ⟨none, 0, ?_, Nat.zero_le _, Dgs.zero _, Below.refl _ _, fun _ _ _ e => by cases e⟩
      have : decide (0 < N) = nz x := by
        by_cases h0 : x = 0
        · subst h0; rw [← hN]; rfl
        · rw [nz_t h0]; have := nd_pos h0; simp; omega
      rw [this]; rfl⟩
    clear h hn hx hbig hN
    go_enter Try.func88, Try.ntmps88
    go_wp2
    go_ret2
    exact HR.out
  · obtain ⟨N, hN⟩ : ∃ N, nd x = N := ⟨_, rfl⟩
    obtain ⟨q, hq⟩ : ∃ q, n / 32 = q := ⟨_, rfl⟩
    obtain ⟨r, hr⟩ : ∃ r, n % 32 = r := ⟨_, rfl⟩
    have q1 : Int.tdiv (n : Int) 32 = q := by rw [Int.tdiv_eq_ediv_of_nonneg (by omega)]; omega
    have r1 : Int.tmod (n : Int) 32 = r := by rw [Int.tmod_eq_emod_of_nonneg (by omega)]; omega
    have q2 : (n : Int) / 32 = q := by omega
    have r2 : (n : Int) % 32 = r := by omega
    have hr3 : r < 32 := by omega
    have hq3 : q ≤ 536870912 := by omega
    have r0 : (0 : Int) ≤ r := by omega
    have q0 : (0 : Int) ≤ q := by omega
    rw [hN] at hs hbig ⊢
    have hqN : q < N := by omega
    have hqN' : (q : Int) < N := by omega
    have d0 : (n : Int) < 32 * (N : Int) := by omega
    have hs1 : (32 : Int) * N ≤ 17179869184 := by omega
    obtain ⟨b', o', rfl⟩ := h.some (by omega)
    have H := Hd.mk h
    have HN := Hd.mk hN
    have HQ := Hd.mk (show n = 32 * q + r by omega)
    have hmk : ∀ w, (Instr.makeSlice 32 (.int .i64 ((N : Int) - q)) (.int .i64 ((N : Int) - q))).run Try.prog w = .ok (.slice (some ⟨w.heap.size, 0, none⟩) (N - q) (N - q)) (w.alloc (.cells (madeCells #[.int .u64 0] (N - q)) 28)) := fun w => by
      rw [show (N : Int) - q = ((N - q : Nat) : Int) by omega]; exact make_u64 (N - q) (by omega) w
    clear h hN hq hr hbig
    go_enter Try.func88, Try.ntmps88
    go_wp2_with fail
    go_loop [6, 7] (fun lv iv => ∃ (i : Nat), i ≤ q ∧ iv = .int .i64 i ∧ lv = .bool (nz (x % BB ^ i))) (fun _ iv => q - (intOf iv).toNat)
    case atStart => exact ⟨0, Nat.zero_le _, rfl, by rw [nz_f (by simp [Nat.mod_one])]⟩
    case round =>
      obtain ⟨i, hi, rfl, rfl⟩ := hrel
      by_cases hlt : i < q
      · have hlt' : (i : Int) < (q : Int) := by omega
        have hlt2 : (i : Int) < (N : Int) := by omega
        have i0 : (0 : Int) ≤ i := by omega
        have c1 := (H.out.cell b' o' none rfl i (by rw [HN.out]; omega)).2
        by_cases hl : x % BB ^ i = 0
        · have E := Hd.mk (lost_step x i hl)
          rw [nz_f hl]
          clear hl
          go_wp2_with fail
          rw [bne_nz]
          refine ⟨⟨i + 1, by omega, by go_num, by rw [E.out]⟩, by simp [intOf]; omega⟩
        · have E := Hd.mk (lost_step1 x i hl)
          rw [nz_t hl]
          clear hl
          go_wp2_with fail
          refine ⟨⟨i + 1, by omega, by go_num, by rw [E.out]⟩, by simp [intOf]; omega⟩
      · obtain rfl : i = q := by omega
        have c1 := (H.out.cell b' o' none rfl i (by rw [HN.out]; omega)).2
        have p0 : (2 : Int) ^ r = ((2 ^ r : Nat) : Int) := by rw [Int.natCast_pow]; rfl
        have hS : 2 ^ r ≤ 2 ^ 31 := Nat.pow_le_pow_right (by decide) (by omega)
        have hS0 : 0 < 2 ^ r := Nat.pow_pos (by decide)
        have EL : Hd (x % BB ^ i = 0 → nz (x % 2 ^ n) = nz (dg x i % 2 ^ r)) := ⟨fun h => by rw [HQ.out]; exact dn_lost x i r hr3 h⟩
        have EL1 : Hd (x % BB ^ i ≠ 0 → nz (x % 2 ^ n) = true) := ⟨fun h => by rw [HQ.out]; exact dn_lost1 x i r hr3 h⟩
        have ED : Hd (∀ j, (dg x (j + i) + dg x (j + i + 1) * BB) / 2 ^ r % BB = dg (x / 2 ^ n) j) := ⟨fun j => by rw [HQ.out]; exact dn_dig x i r j hr3⟩
        generalize 2 ^ r = S at *
        have l1 := dg_lt x i
        have hS' : S ≤ 2147483648 := hS
        have tm : Int.tmod (dg x i : Int) S = ((dg x i % S : Nat) : Int) := by rw [Int.tmod_eq_emod_of_nonneg (by omega)]; rfl
        have R0 := Hd.mk fun k => Filled.made' w k (N - i)
        have HZ : Hd (∀ f : Nat → Nat, (∀ j, j < N - i → f j = dg (x / 2 ^ n) j) → vl (N - i) f = x / 2 ^ n) := ⟨fun f hf => by
          rw [vl_congr hf, vl_dg, Nat.mod_eq_of_lt]
          have h1 : x < BB ^ N := by have := lt_nd x; rw [HN.out] at this; exact this
          rw [HQ.out, Nat.pow_add, ← BB_pow]
          rw [Nat.div_lt_iff_lt_mul (Nat.mul_pos (BB_pos _) (Nat.pow_pos (by decide))), ← Nat.mul_assoc, ← Nat.pow_add, show N - i + i = N by omega]
          exact Nat.lt_of_lt_of_le h1 (Nat.le_mul_of_pos_right _ (Nat.pow_pos (by decide)))⟩
        rcases Decidable.em (x % BB ^ i = 0) with hl | hl
        have E : Hd (((dg x i : Int) % S != 0) = nz (x % 2 ^ n)) := ⟨by rw [show ((dg x i : Int) % S) = ((dg x i % S : Nat) : Int) from rfl, bne_nz, EL.out hl]⟩
        rw [nz_f hl]
        clear hl hS EL EL1
        go_wp2_with fail
        go_quiet (fail)
        rotate_left
        have E : Hd (true = nz (x % 2 ^ n)) := ⟨(EL1.out hl).symm⟩
        rw [nz_t hl]
        clear hl hS EL EL1
        go_wp2_with fail
        go_quiet (fail)
        all_goals
          go_wp2_with fail
          have F0 := Hd.mk (R0.out nq)
          generalize ((w.drewN nq).alloc (.cells (madeCells #[.int .u64 0] (N - i)) 28)) = w1 at *
          generalize hb : w.heap.size = b at *
          have HB := Hd.mk hb
          clear hb hmk R0
          go_loopw [9] (fun jv wr => ∃ (j : Nat) (f : Nat → Nat), j ≤ N - i ∧ jv = .int .i64 j ∧ Hd (Filled w wr b (N - i) f) ∧ Hd (∀ k, k < j → f k = dg (x / 2 ^ n) k)) (fun jv _ => N - i - (intOf jv).toNat)
          case atStart => exact ⟨0, _, Nat.zero_le _, rfl, F0, ⟨fun k hk => by omega⟩⟩
          case round =>
            clear F0
            obtain ⟨j, f, hj, rfl, HF, HD⟩ := hrel
            have G := Hd.mk (H.out.below (HF.out.below))
            by_cases hlt : j < N - i
            · have hlt' : (j : Int) < (N : Int) - i := by omega
              have hlt2 : (j : Int) + i < (N : Int) := by omega
              have j0 : (0 : Int) ≤ j := by omega
              have l1 := dg_lt x (j + i)
              have l2 := dg_lt x (j + i + 1)
              have c2 := (G.out.cell b' o' none rfl (j + i) (by rw [HN.out]; omega)).2
              have row := HF.out.row.cell hlt
              have frz := HF.out.row.frozen j
              have DC : ∀ w, Dgs w (some ⟨b', o', none⟩) x → Calls Try.prog 87 #[.slice (some ⟨b', o', none⟩) N c, .int .i64 ((j : Int) + i + 1)] w fun e w' => e = .returned (.int .u64 (dg x (j + i + 1))) ∧ w' = w := fun w h => by
                have := (digit_any (some ⟨b', o', none⟩) x c (j + i + 1) w h (by rw [HN.out]; omega)).mono fun e w' h => (⟨h.1, h.2.symm⟩ : e = _ ∧ w' = w)
                rw [HN.out] at this
                exact this
              have HDC := Hd.mk DC
              clear DC
              go_wp2_with fail
              refine wp_region_still_tail 23 (by kernel_rfl) (by kernel_rfl) ?_
              simp only [List.take_succ_cons, List.take_zero, List.drop_succ_cons, List.drop_zero]
              change wpStill _ _ wr.drew _ _ _
              have GD : Hd (Dgs wr.drew (some ⟨b', o', none⟩) x) := ⟨G.out.keep fun _ _ _ h => h⟩
              have w1 : IntKind.i64.wrap (i : Int) = i := by rw [IntKind.wrap_i64]; omega
              have w2 : IntKind.i64.wrap ((j : Int) + i) = j + i := by rw [IntKind.wrap_i64]; omega
              have w3 : IntKind.i64.wrap ((j : Int) + i + 1) = j + i + 1 := by rw [IntKind.wrap_i64]; omega
              have w4 : ((j : Int) + i).toNat = j + i := by omega
              have w5 : (0 : Int) ≤ (j : Int) + i := by omega
              have w6 : IntKind.u64.wrap ((dg x (j + i + 1) : Int) * 4294967296) = (dg x (j + i + 1) : Int) * 4294967296 := by rw [IntKind.wrap_u64]; omega
              have w7 : IntKind.u64.wrap ((dg x (j + i) : Int) + (dg x (j + i + 1) : Int) * 4294967296) = (dg x (j + i) : Int) + (dg x (j + i + 1) : Int) * 4294967296 := by rw [IntKind.wrap_u64]; omega
              iterate 15 still_step
              still_call (HDC.out wr.drew GD.out)
              iterate 7 still_step
              refine wpStill_nil ?_
              change wpList _ _ _ _ _ wr.drew
              clear w1 w2 w3 w4 w5 w6 w7
              go_wp2_with fail
              have v1 : (((dg x (j + i) : Int) + (dg x (j + i + 1) : Int) * 4294967296) / S).tmod 4294967296 = ((dg (x / 2 ^ n) j : Nat) : Int) := by
                rw [← ED.out j, Int.tmod_eq_emod_of_nonneg (Int.ediv_nonneg (by omega) (by omega))]
                rfl
              rw [v1]
              refine ⟨⟨j + 1, _, by omega, by go_num, ⟨(HF.out.set j _ (dg_lt _ _)).drew⟩, ⟨fun k hk => ?_⟩⟩, by simp [intOf]; omega⟩
              unfold upd
              by_cases e : k = j
              · rw [if_pos e, e]
              · rw [if_neg e]; exact HD.out k (by omega)
            · obtain rfl : j = N - i := by omega
              have hz := HZ.out f HD.out
              go_wp2_with fail
              refine (trim_row b (N - i) (N - i) (x / 2 ^ n) f _ (by omega) (Nat.le_refl _) (fun j _ => HF.out.dig j) hz HF.out.row).mono ?_
              have HZ' := Hd.mk hz
              clear hz
              rintro e w' ⟨q, rfl, rfl⟩
              go_wp2_with fail
              go_ret2
              exact filled_ret2 (HF.out.drewN q) HZ'.out (Nat.le_refl _) E.out
end Go.Proofs.Ytjhkjekbadbgnaa
