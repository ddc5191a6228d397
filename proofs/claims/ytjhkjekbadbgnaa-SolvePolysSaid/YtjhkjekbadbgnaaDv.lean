/- The walk of the reference's DivDigits. -/
import Derived.Test.YtjhkjekbadbgnaaDd
namespace Go.Proofs.Ytjhkjekbadbgnaa
open Go.RowKit
set_option linter.unusedSimpArgs false
set_option linter.unusedVariables false

theorem bit_dig (x i : Nat) : dg x (i / 32) / 2 ^ (i % 32) % 2 = x / 2 ^ i % 2 := by
  unfold dg
  have e : BB = 2 ^ (i % 32) * 2 ^ (32 - i % 32) := by rw [← Nat.pow_add, show i % 32 + (32 - i % 32) = 32 by omega]
  rw [e, Nat.mod_mul_right_div_self, Nat.mod_mod_of_dvd _ (by rw [show 32 - i % 32 = (31 - i % 32) + 1 by omega, Nat.pow_succ]; exact Nat.dvd_mul_left _ _), Nat.div_div_eq_div_mul, ← e, BB_pow, ← Nat.pow_add, show 32 * (i / 32) + i % 32 = i by omega]

theorem half_bit (x i : Nat) : x / 2 ^ i = 2 * (x / 2 ^ (i + 1)) + x / 2 ^ i % 2 := by
  rw [Nat.pow_succ, ← Nat.div_div_eq_div_mul]
  omega

/-- One bit of the quotient: r is the rest before. -/
theorem div_bit1 (X y b : Nat) (hy : y ≠ 0) (hb : b ≤ 1) (h : y ≤ X % y * 2 + b) : (2 * X + b) % y = X % y * 2 + b - y ∧ (2 * X + b) / y = 2 * (X / y) + 1 := by
  have e := Nat.div_add_mod X y
  have l : X % y < y := Nat.mod_lt _ (by omega)
  generalize X % y = r at *
  generalize X / y = q at *
  have e2 : 2 * X + b = (r * 2 + b - y) + y * (2 * q + 1) := by
    rw [← e, Nat.mul_add, Nat.mul_add, ← Nat.mul_assoc, Nat.mul_comm 2 y, Nat.mul_assoc]; omega
  rw [e2, Nat.add_mul_mod_self_left, Nat.add_mul_div_left _ _ (by omega), Nat.mod_eq_of_lt (by omega), Nat.div_eq_of_lt (by omega)]
  exact ⟨rfl, by omega⟩
theorem div_bit0 (X y b : Nat) (hy : y ≠ 0) (hb : b ≤ 1) (h : ¬ y ≤ X % y * 2 + b) : (2 * X + b) % y = X % y * 2 + b ∧ (2 * X + b) / y = 2 * (X / y) := by
  have e := Nat.div_add_mod X y
  have l : X % y < y := Nat.mod_lt _ (by omega)
  generalize X % y = r at *
  generalize X / y = q at *
  have e2 : 2 * X + b = (r * 2 + b) + y * (2 * q) := by
    rw [← e, Nat.mul_add, ← Nat.mul_assoc, Nat.mul_comm 2 y, Nat.mul_assoc]; omega
  rw [e2, Nat.add_mul_mod_self_left, Nat.add_mul_div_left _ _ (by omega), Nat.mod_eq_of_lt (by omega), Nat.div_eq_of_lt (by omega)]
  exact ⟨rfl, by omega⟩

/-- A bit goes into a row that has none at or below it. -/
theorem row_bit (n i Q : Nat) (f : Nat → Nat) (hf : ∀ j, f j < BB) (hi : i / 32 < n) (hv : vl n f = Q * 2 ^ (i + 1)) :
    f (i / 32) + 2 ^ (i % 32) < 4294967296 ∧ vl n (upd f (i / 32) (f (i / 32) + 2 ^ (i % 32))) = (2 * Q + 1) * 2 ^ i := by
  constructor
  · have h1 := vl_dig (fun j _ => hf j) (i / 32) hi
    rw [hv] at h1
    have e : Q * 2 ^ (i + 1) / BB ^ (i / 32) = Q * 2 ^ (i % 32 + 1) := by
      have : (2:Nat) ^ (i + 1) = 2 ^ (i % 32 + 1) * BB ^ (i / 32) := by rw [BB_pow, ← Nat.pow_add]; congr 1; omega
      rw [this, ← Nat.mul_assoc, Nat.mul_div_cancel _ (BB_pos _)]
    unfold dg at h1
    have e2 : BB = 2 ^ (i % 32 + 1) * 2 ^ (31 - i % 32) := by rw [← Nat.pow_add, show i % 32 + 1 + (31 - i % 32) = 32 by omega]
    rw [e, e2, Nat.mul_comm Q, Nat.mul_mod_mul_left] at h1
    have h2 : Q % 2 ^ (31 - i % 32) + 1 ≤ 2 ^ (31 - i % 32) := Nat.mod_lt _ (Nat.pow_pos (by decide))
    have h3 := Nat.mul_le_mul_left (2 ^ (i % 32 + 1)) h2
    rw [← e2, Nat.mul_add, ← h1, show BB = 4294967296 from rfl, Nat.pow_succ] at h3
    have : 0 < 2 ^ (i % 32) := Nat.pow_pos (by decide)
    omega
  · have h1 := vl_upd f (i / 32) (f (i / 32) + 2 ^ (i % 32)) n hi
    have e : 2 ^ (i % 32) * BB ^ (i / 32) = 2 ^ i := by rw [BB_pow, ← Nat.pow_add]; congr 1; omega
    rw [Nat.add_mul, e, hv] at h1
    rw [Nat.add_mul, Nat.one_mul, Nat.mul_comm 2 Q, Nat.mul_assoc, show 2 * 2 ^ i = 2 ^ (i + 1) by rw [Nat.pow_succ]; omega]
    omega

theorem nd_mono {x y : Nat} (h : x ≤ y) : nd x ≤ nd y := nd_le (Nat.lt_of_le_of_lt h (lt_nd y))
theorem nd_double {x y : Nat} (h : x < 2 * y) : nd x ≤ nd y + 1 := by
  refine nd_le ?_
  have := lt_nd y
  rw [Nat.pow_succ, show BB ^ nd y * BB = BB ^ nd y * 4294967296 from rfl]
  omega

theorem cmp_ge {x y : Nat} (h : y ≤ x) : decide ((0 : Int) ≤ cmpN x y) = true := by
  unfold cmpN; split
  · omega
  · split <;> rfl
theorem cmp_lt {x y : Nat} (h : ¬ y ≤ x) : decide ((0 : Int) ≤ cmpN x y) = false := by
  unfold cmpN; rw [if_pos (by omega)]; rfl

/-- It returns two numbers' digits. -/
def D22Ret (z z' : Nat) (w : World) (e : Ending) (w' : World) : Prop := ∃ a c a' c', e = .returned (.tuple #[.slice a (nd z) c, .slice a' (nd z') c']) ∧ nd z ≤ c ∧ nd z' ≤ c' ∧ Dgs w' a z ∧ Dgs w' a' z' ∧ Below w.heap.size w w' ∧ (∀ b o v, a = some ⟨b, o, v⟩ → w.heap.size ≤ b) ∧ (∀ b o v, a' = some ⟨b, o, v⟩ → w.heap.size ≤ b)

theorem dgs_one (w : World) : Dgs (w.alloc (.cells #[.int .u64 1] 28)) (some ⟨w.heap.size, 0, none⟩) 1 :=
  ⟨(fun e => by cases e), fun b o v e i hi => by
    cases e
    have : nd 1 = 1 := by decide
    rw [this] at hi
    obtain rfl : i = 0 := by omega
    exact ⟨rfl, by simp [go_sem]; rfl⟩⟩

theorem Dgs.setOther {w : World} {a : Option Addr} {x b : Nat} (h : Dgs w a x) (hb : ∀ b1 o v, a = Option.some ⟨b1, o, v⟩ → b < b1) (i : Nat) (v : Value) : Dgs (w.setCell ⟨b, i, none⟩ v) a x :=
  ⟨h.nil, fun b1 o v' e j hj => ⟨(h.cell b1 o v' e j hj).1, by
    have h1 := (h.cell b1 o v' e j hj).2
    have h2 := hb b1 o v' e
    have h3 := World.cell?_of_block (w := w) (w' := w.setCell ⟨b, i, none⟩ v) (a := ⟨b1, o + j, none⟩) (Below.heap_setCell _ _ _ _ (by simp; omega))
    rw [h3, h1]⟩⟩

set_option maxHeartbeats 8000000 in
set_option maxRecDepth 100000 in
theorem divDigits_any (a : Option Addr) (x c : Nat) (a' : Option Addr) (y c' : Nat) (w : World) (h : Dgs w a x) (h' : Dgs w a' y) (hs : nd x ≤ 16777216) (hs' : nd y ≤ 16777216) (hy : y ≠ 0) :
    Calls Try.prog 113 #[.slice a (nd x) c, .slice a' (nd y) c'] w (D22Ret (x / y) (x % y) w) := by
  obtain ⟨N, hN⟩ : ∃ N, nd x = N := ⟨_, rfl⟩
  have hmk : ∀ w, (Instr.makeSlice 32 (.int .i64 (N : Int)) (.int .i64 (N : Int))).run Try.prog w = .ok (.slice (some ⟨w.heap.size, 0, none⟩) N N) (w.alloc (.cells (madeCells #[.int .u64 0] N) 28)) := fun w => make_u64 N (by omega) w
  have H := Hd.mk h
  have H' := Hd.mk h'
  have HN := Hd.mk hN
  have HY := Hd.mk hy
  have hbl : bl x ≤ 32 * N := bl_le (by rw [← BB_pow, ← hN]; exact lt_nd x)
  have L := Hd.mk (len_any a x c)
  rw [hN] at hs ⊢
  have LC : ∀ w, Dgs w a x → Calls Try.prog 71 #[.slice a N c] w fun e w' => e = .returned (.int .i64 (bl x)) ∧ w = w' := fun w h => by have := L.out w h (by omega); rw [hN] at this; exact this
  have HLC := Hd.mk LC
  have X0 : Hd (x / 2 ^ bl x = 0) := ⟨Nat.div_eq_of_lt (bl_lt x)⟩
  clear h h' hN L LC hy
  go_enter Try.func113, Try.ntmps113
  go_wp2_with fail
  have F0 := Hd.mk (Filled.made w N)
  generalize (w.alloc (.cells (madeCells #[.int .u64 0] N) 28)) = w1 at *
  generalize hb : w.heap.size = b at *
  have HB := Hd.mk hb
  clear hb hmk
  have G0 := Hd.mk (H.out.below F0.out.below)
  refine (HLC.out _ G0.out).mono ?_; rintro e w' ⟨rfl, rfl⟩
  generalize bl x = l at *
  go_wp2_with fail
  go_loopw [6, 8] (fun rv iv wr => ∃ (m : Nat) (ra : Option Addr) (rc : Nat) (f : Nat → Nat), m ≤ l ∧ iv = .int .i64 ((m : Int) - 1) ∧ rv = .slice ra (nd (x / 2 ^ m % y)) rc ∧ Hd (nd (x / 2 ^ m % y) ≤ rc) ∧ Hd (Filled w wr b N f) ∧ Hd (Dgs wr ra (x / 2 ^ m % y)) ∧ Hd (∀ b1 o v, ra = some ⟨b1, o, v⟩ → b < b1) ∧ Hd (vl N f = x / 2 ^ m / y * 2 ^ m)) (fun _ iv _ => (intOf iv + 1).toNat)
  case atStart =>
    have e0 : nd (x / 2 ^ l % y) = 0 := by rw [X0.out, Nat.zero_mod]; rfl
    refine ⟨l, none, 0, _, Nat.le_refl _, rfl, by rw [e0], ⟨by omega⟩, F0, ⟨by rw [X0.out, Nat.zero_mod]; exact Dgs.zero _⟩, ⟨fun _ _ _ e => by cases e⟩, ⟨by rw [X0.out, Nat.zero_div, Nat.zero_mul, vl_zero]⟩⟩
  case round =>
    clear F0 G0
    obtain ⟨m, ra, rc, f, hm, rfl, rfl, HC, HF, HD, HB2, HV⟩ := hrel
    by_cases h0 : m = 0
    · subst h0
      have hz : vl N f = x / y := by rw [HV.out]; simp
      go_wp2_with fail
      refine (trim_row b N N (x / y) f _ (by omega) (Nat.le_refl _) (fun j _ => HF.out.dig j) hz HF.out.row).mono ?_
      have HZ := Hd.mk hz
      clear hz
      rintro e w' ⟨q, rfl, rfl⟩
      go_wp2_with fail
      go_ret2
      obtain ⟨a6, c6, h1, h2, h3, h4, h5⟩ := filled_ret (HF.out.drewN q) HZ.out (Nat.le_refl _)
      cases h1
      have e1 : x / 2 ^ 0 % y = x % y := by simp
      exact ⟨_, _, ra, rc, rfl, h2, by rw [← e1]; exact HC.out, h3, by rw [← e1]; exact HD.out.drewN q, h4, h5, fun b1 o v e => by have := HB2.out b1 o v e; have := HB.out; omega⟩
    · obtain ⟨i, rfl⟩ : ∃ i, m = i + 1 := ⟨m - 1, by omega⟩
      clear h0
      have i0 : (0 : Int) ≤ i := by omega
      obtain ⟨q, hq⟩ : ∃ q, i / 32 = q := ⟨_, rfl⟩
      obtain ⟨r, hr⟩ : ∃ r, i % 32 = r := ⟨_, rfl⟩
      have q1 : Int.tdiv (i : Int) 32 = q := by rw [Int.tdiv_eq_ediv_of_nonneg (by omega)]; omega
      have r1 : Int.tmod (i : Int) 32 = r := by rw [Int.tmod_eq_emod_of_nonneg (by omega)]; omega
      have q2 : (i : Int) / 32 = q := by omega
      have r2 : (i : Int) % 32 = r := by omega
      have hr3 : r < 32 := by omega
      have hqN : q < N := by omega
      have hqN' : (q : Int) < N := by omega
      have r0 : (0 : Int) ≤ r := by omega
      have q0 : (0 : Int) ≤ q := by omega
      have QI := Hd.mk hq
      have RI := Hd.mk hr
      obtain ⟨bx, ox, rfl⟩ := H.out.some (by rw [HN.out]; omega)
      clear hq hr
      have e8 : (((i + 1 : Nat) : Int) - 1) = i := by omega
      rw [e8]
      clear e8
      have hR : x / 2 ^ (i + 1) % y < y := Nat.mod_lt _ (by have := HY.out; omega)
      have HX := Hd.mk (half_bit x i)
      have HB1 := Hd.mk (fun b h => div_bit1 (x / 2 ^ (i + 1)) y b HY.out h)
      have HB0 := Hd.mk (fun b h => div_bit0 (x / 2 ^ (i + 1)) y b HY.out h)
      have HRB := Hd.mk (row_bit N i (x / 2 ^ (i + 1) / y) f HF.out.dig (by rw [QI.out]; exact hqN) HV.out)
      have HBD := Hd.mk (bit_dig x i)
      rw [QI.out, RI.out] at HBD HRB
      generalize x / 2 ^ (i + 1) % y = R at *
      have nR : nd R ≤ 16777216 := Nat.le_trans (nd_mono (Nat.le_of_lt hR)) hs'
      have hR2 := Hd.mk hR
      have nR2 : nd (R * 2) ≤ 16777217 := Nat.le_trans (nd_double (y := y) (by omega)) (by omega)
      have nR3 : nd (R * 2 + 1) ≤ 16777217 := Nat.le_trans (nd_double (y := y) (by omega)) (by omega)
      clear hR
      have p0 : (2 : Int) ^ r = ((2 ^ r : Nat) : Int) := by rw [Int.natCast_pow]; rfl
      have hS : 2 ^ r ≤ 2 ^ 31 := Nat.pow_le_pow_right (by decide) (by omega)
      have hS' : 2 ^ r ≤ 2147483648 := hS
      have hS0 : 0 < 2 ^ r := Nat.pow_pos (by decide)
      clear hS
      generalize 2 ^ r = S at *
      have pd : (dg x q : Int) / S = ((dg x q / S : Nat) : Int) := rfl
      generalize dg x q / S = D at *
      have HSU : Hd (∀ w, Dgs w ra R → Calls Try.prog 86 #[.slice ra (nd R) rc, .int .i64 1] w (DRet (R * 2) w)) := ⟨fun w h => by
        have := shiftUp_any ra R rc 1 w h (by omega) (by omega)
        rwa [Nat.pow_one] at this⟩
      go_wp2_with fail
      refine (HSU.out wr HD.out).mono ?_
      rintro e w2 ⟨a2, c2, rfl, hc2, hd2, hb2, hf2⟩
      have G2 := Hd.mk ((H.out.below HF.out.below).below hb2)
      have cx := (G2.out.cell bx ox none rfl q (by rw [HN.out]; omega)).2
      have HC2 := Hd.mk hc2
      have HD2 := Hd.mk hd2
      have HB3 := Hd.mk hb2
      have HF2 := Hd.mk hf2
      clear hc2 hd2 hb2 hf2
      rcases (by omega : D % 2 = 1 ∨ D % 2 = 0) with hbit | hbit
      focus
        have db : ((D : Int) % 2 == 1) = true := by rw [beq_iff_eq]; omega
        have HE : Hd (x / 2 ^ i = 2 * (x / 2 ^ (i + 1)) + 1) := ⟨by rw [HX.out, ← HBD.out, hbit]⟩
        have AD : ∀ w, Dgs w a2 (R * 2) → Dgs w (some ⟨w2.heap.size, 0, none⟩) 1 → Calls Try.prog 104 #[.slice a2 (nd (R * 2)) c2, .slice (some ⟨w2.heap.size, 0, none⟩) 1 1] w (DRet (R * 2 + 1) w) := fun w h1 h2 => by
          have := addDigits_any a2 (R * 2) c2 (some ⟨w2.heap.size, 0, none⟩) 1 1 w h1 h2 (by omega) (by decide)
          rwa [show nd 1 = 1 by decide] at this
        have HAD := Hd.mk AD
        clear AD
        go_wp2_with fail
        have ba : Below w2.heap.size w2 (w2.alloc (.cells #[.int .u64 1] 28)) := (Below.refl _ _).alloc (Nat.le_refl _) _
        refine (HAD.out _ (HD2.out.below ba) (dgs_one w2)).mono ?_
        rintro e w3 ⟨a3, c3, rfl, hc3, hd3, hb3, hf3⟩
        have B3 : Hd (Below wr.heap.size wr w3) := ⟨(HB3.out.trans (ba.mono HB3.out.size)).trans (hb3.mono (by have := HB3.out.size; simp; omega))⟩
        have F3 : Hd (∀ b1 o v, a3 = some ⟨b1, o, v⟩ → wr.heap.size ≤ b1) := ⟨fun b1 o v e => by have := hf3 b1 o v e; have := HB3.out.size; simp at *; omega⟩
        have HD3 := Hd.mk hd3
        have HC3 := Hd.mk hc3
        clear hd3 hb3 hf3 hc3 ba db hbit
        have E1 : Hd (y ≤ R * 2 + 1 → x / 2 ^ i % y = R * 2 + 1 - y ∧ x / 2 ^ i / y = 2 * (x / 2 ^ (i + 1) / y) + 1) := ⟨fun h => by rw [HE.out]; exact HB1.out 1 (by omega) h⟩
        have E0 : Hd (¬ y ≤ R * 2 + 1 → x / 2 ^ i % y = R * 2 + 1 ∧ x / 2 ^ i / y = 2 * (x / 2 ^ (i + 1) / y)) := ⟨fun h => by rw [HE.out]; exact HB0.out 1 (by omega) h⟩
        generalize R * 2 + 1 = s at *
        clear HE HB1 HB0 HAD HSU HX HBD
        go_wp2_with fail
      rotate_left
      focus
        have db : ((D : Int) % 2 == 1) = false := by rw [beq_eq_false_iff_ne]; omega
        have HE : Hd (x / 2 ^ i = 2 * (x / 2 ^ (i + 1)) + 0) := ⟨by rw [HX.out, ← HBD.out, hbit]⟩
        go_wp2_with fail
        clear db hbit
        have nR3 := nR2
        have E1 : Hd (y ≤ R * 2 → x / 2 ^ i % y = R * 2 - y ∧ x / 2 ^ i / y = 2 * (x / 2 ^ (i + 1) / y) + 1) := ⟨fun h => by rw [HE.out]; exact HB1.out 0 (by omega) h⟩
        have E0 : Hd (¬ y ≤ R * 2 → x / 2 ^ i % y = R * 2 ∧ x / 2 ^ i / y = 2 * (x / 2 ^ (i + 1) / y)) := ⟨fun h => by rw [HE.out]; exact HB0.out 0 (by omega) h⟩
        generalize R * 2 = s at *
        clear HE HB1 HB0 HSU HX HBD
        have B3 := HB3
        have F3 := HF2
        have HD3 := HD2
        have HC3 := HC2
        clear HB3 HF2 HD2 HC2
        generalize w2 = w3 at *
        generalize a2 = a3 at *
        generalize c2 = c3 at *
      all_goals
        have G3 := Hd.mk ((H'.out.below HF.out.below).below B3.out)
        refine (cmpDigits_any a3 s c3 a' y c' w3 HD3.out G3.out (by omega) (by omega)).mono ?_
        rintro e w4 ⟨kk, rfl, rfl⟩
        have F4 := Hd.mk ((HF.out.after B3.out).drewN kk)
        have BZ : b < wr.heap.size := HF.out.row.lt
        have HBZ := Hd.mk BZ
        clear BZ
        rcases Decidable.em (y ≤ s) with hge | hge
        focus
          have dc := cmp_ge hge
          have EE := Hd.mk (E1.out hge)
          have HGE := Hd.mk hge
          clear hge
          go_wp2_with fail
          refine (subDigits_any a3 s c3 a' y c' _ (HD3.out.drewN kk) (G3.out.drewN kk) (by omega) (by omega) HGE.out).mono ?_
          rintro e w5 ⟨a5, c5, rfl, hc5, hd5, hb5, hf5⟩
          have F5 := Hd.mk (F4.out.after hb5)
          have row := F5.out.row.cell hqN
          have frz := F5.out.row.frozen q
          have HC5 := Hd.mk hc5
          have HD5 := Hd.mk hd5
          have HF5 := Hd.mk hf5
          have BZ4 : b < (w3.drewN kk).heap.size := F4.out.row.lt
          have HBZ4 := Hd.mk BZ4
          clear hc5 hd5 hb5 hf5 dc BZ4
          have rb := HRB.out.1
          go_wp2_with fail
          have w1 : IntKind.i64.wrap (q : Int) = q := by rw [IntKind.wrap_i64]; omega
          have w2 : IntKind.i64.wrap (r : Int) = r := by rw [IntKind.wrap_i64]; omega
          have w4 : IntKind.u64.wrap (S : Int) = S := by rw [IntKind.wrap_u64]; omega
          have w6 : IntKind.u64.wrap ((f q : Int) + S) = (f q : Int) + S := by rw [IntKind.wrap_u64]; omega
          refine wp_region_still_tail 13 (by kernel_rfl) (by kernel_rfl) ?_
          simp only [List.take_succ_cons, List.take_zero, List.drop_succ_cons, List.drop_zero]
          change wpStill _ _ w5.drew _ _ _
          iterate 13 still_step
          refine wpStill_nil ?_
          change wpList _ _ _ _ _ w5.drew
          clear w1 w2 w4 w6
          go_wp2_with fail
          have v1 : ((f q : Int) + S) = ((f q + S : Nat) : Int) := by omega
          rw [v1]
          refine ⟨⟨i, a5, c5, _, by omega, rfl, by rw [EE.out.1], ⟨by rw [EE.out.1]; exact HC5.out⟩, ⟨(F5.out.set q _ rb).drew⟩, ⟨?_⟩, ⟨fun b1 o v e => by have := HF5.out b1 o v e; have := HBZ4.out; omega⟩, ⟨by rw [EE.out.2]; exact HRB.out.2⟩⟩, by simp [intOf]⟩
          rw [EE.out.1]
          exact (HD5.out.setOther (b := b) (fun b1 o v e => by have := HF5.out b1 o v e; have := HBZ4.out; omega) q _).keep fun _ _ _ h => h
        rotate_left
        focus
          have dc := cmp_lt hge
          have EE := Hd.mk (E0.out hge)
          clear hge
          go_wp2_with fail
          refine ⟨⟨i, a3, c3, f, by omega, rfl, by rw [EE.out.1], ⟨by rw [EE.out.1]; exact HC3.out⟩, F4, ⟨by rw [EE.out.1]; exact HD3.out.drewN kk⟩, ⟨fun b1 o v e => by have := F3.out b1 o v e; have := HBZ.out; omega⟩, ⟨?_⟩⟩, by simp [intOf]⟩
          rw [EE.out.2, HV.out, Nat.pow_succ, Nat.mul_comm (2 ^ i) 2, ← Nat.mul_assoc, Nat.mul_comm _ 2]
end Go.Proofs.Ytjhkjekbadbgnaa
