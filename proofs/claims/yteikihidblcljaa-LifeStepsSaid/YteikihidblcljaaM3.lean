/- Put together out of several texts: Dg Dp Dw Da Db Dc Dm Du Dd Dv Dn Do Dt Dq Dr. -/
import Derived.Test.YteikihidblcljaaM1
import Derived.Test.YteikihidblcljaaM2
import Derived.Deep.OwnRows
import Derived.Deep.LoopGhost
import Derived.Deep.QuietTactic
import Derived.BigQuiet
import Derived.WalkSmall
import Derived.Lib.MinMax
import Derived.StillTailTactics
import Derived.Deep.RegionHeld3
import Derived.Laws.BitsAllLaws

/- Plain: whole numbers by their digits to the base 2^32. No program. -/
namespace Go.Proofs.Yteikihidblcljaa

abbrev BB : Nat := 4294967296
/-- The i-th digit. -/
def dg (x i : Nat) : Nat := x / BB ^ i % BB
/-- How many digits. -/
def nd (x : Nat) : Nat := if x = 0 then 0 else x.log2 / 32 + 1
/-- The value of n digits. -/
def vl : Nat → (Nat → Nat) → Nat
  | 0, _ => 0
  | n + 1, f => vl n f + f n * BB ^ n
/-- One digit set. -/
def upd (f : Nat → Nat) (i v : Nat) : Nat → Nat := fun j => if j = i then v else f j

theorem BB_pow (n : Nat) : BB ^ n = 2 ^ (32 * n) := by rw [Nat.pow_mul]
theorem BB_pos (n : Nat) : 0 < BB ^ n := Nat.pow_pos (by decide)

theorem dg_lt (x i : Nat) : dg x i < 4294967296 := Nat.mod_lt _ (by decide)

theorem nd_zero : nd 0 = 0 := rfl

theorem lt_nd (x : Nat) : x < BB ^ nd x := by
  unfold nd
  by_cases h : x = 0
  · subst h; exact Nat.pow_pos (by decide)
  · rw [if_neg h, BB_pow]
    have := (Nat.log2_lt (k := x.log2 + 1) h).1 (by omega)
    exact Nat.lt_of_lt_of_le this (Nat.pow_le_pow_right (by decide) (by omega))

theorem nd_le {x n : Nat} (h : x < BB ^ n) : nd x ≤ n := by
  unfold nd
  by_cases h0 : x = 0
  · rw [if_pos h0]; omega
  · rw [if_neg h0]
    rw [BB_pow] at h
    have := (Nat.log2_lt h0).2 h
    omega

theorem le_of_nd {x n : Nat} (h : n < nd x) : BB ^ n ≤ x := by
  refine Nat.le_of_not_lt fun hc => ?_
  have := nd_le hc
  omega

theorem nd_pos {x : Nat} (h : x ≠ 0) : 0 < nd x := by unfold nd; rw [if_neg h]; omega
theorem nd_eq_zero {x : Nat} : nd x = 0 ↔ x = 0 := by
  constructor
  · intro h; refine Decidable.byContradiction fun hc => ?_; have := nd_pos hc; omega
  · intro h; rw [h]; rfl

theorem dg_zero {x i : Nat} (h : x < BB ^ i) : dg x i = 0 := by unfold dg; rw [Nat.div_eq_of_lt h]; rfl
theorem dg_high {x i : Nat} (h : nd x ≤ i) : dg x i = 0 := dg_zero (Nat.lt_of_lt_of_le (lt_nd x) (Nat.pow_le_pow_right (by decide) h))

theorem mod_succ (x i : Nat) : x % BB ^ (i + 1) = x % BB ^ i + dg x i * BB ^ i := by
  unfold dg; rw [Nat.mod_pow_succ, Nat.mul_comm]

theorem dg_top {x : Nat} (h : x ≠ 0) : dg x (nd x - 1) ≠ 0 := by
  intro hc
  have h1 := mod_succ x (nd x - 1)
  have hp := nd_pos h
  rw [show nd x - 1 + 1 = nd x by omega, Nat.mod_eq_of_lt (lt_nd x), hc, Nat.zero_mul, Nat.add_zero] at h1
  have h2 : x % BB ^ (nd x - 1) < BB ^ (nd x - 1) := Nat.mod_lt _ (BB_pos _)
  have h3 := le_of_nd (x := x) (n := nd x - 1) (by omega)
  omega

/-- A number with n digits of which the last is not 0. -/
theorem nd_of {x n : Nat} (h : x < BB ^ n) (h0 : 0 < n) (ht : dg x (n - 1) ≠ 0) : nd x = n := by
  have h1 := nd_le h
  rcases Nat.lt_or_ge (nd x) n with h2 | h2
  · exact absurd (dg_high (x := x) (i := n - 1) (by omega)) ht
  · omega

theorem vl_dg (x : Nat) : ∀ n, vl n (dg x) = x % BB ^ n
  | 0 => by simp [vl, Nat.mod_one]
  | n + 1 => by rw [vl, vl_dg x n, mod_succ]

theorem vl_nd (x : Nat) : vl (nd x) (dg x) = x := by rw [vl_dg, Nat.mod_eq_of_lt (lt_nd x)]

theorem vl_lt {f : Nat → Nat} : ∀ {n}, (∀ j, j < n → f j < BB) → vl n f < BB ^ n
  | 0, _ => by simp [vl]
  | n + 1, h => by
    have h1 := vl_lt (n := n) (fun j hj => h j (by omega))
    have h2 := h n (by omega)
    rw [vl, Nat.pow_succ]
    have h3 : f n + 1 ≤ BB := h2
    calc vl n f + f n * BB ^ n < BB ^ n + f n * BB ^ n := by omega
      _ = (f n + 1) * BB ^ n := by rw [Nat.add_mul, Nat.one_mul, Nat.add_comm]
      _ ≤ BB * BB ^ n := Nat.mul_le_mul_right _ h3
      _ = BB ^ n * BB := Nat.mul_comm _ _

theorem vl_congr {f g : Nat → Nat} : ∀ {n}, (∀ j, j < n → f j = g j) → vl n f = vl n g
  | 0, _ => rfl
  | n + 1, h => by rw [vl, vl, vl_congr (n := n) (fun j hj => h j (by omega)), h n (by omega)]

theorem vl_mod {f : Nat → Nat} : ∀ {n}, (∀ j, j < n → f j < BB) → ∀ i, i ≤ n → vl n f % BB ^ i = vl i f
  | 0, _, i, hi => by obtain rfl : i = 0 := by omega
                      simp [vl]
  | n + 1, h, i, hi => by
    rcases Nat.lt_or_ge n i with h1 | h1
    · obtain rfl : i = n + 1 := by omega
      exact Nat.mod_eq_of_lt (vl_lt h)
    · rw [vl]
      have h2 : BB ^ n = BB ^ i * BB ^ (n - i) := by rw [← Nat.pow_add]; congr 1; omega
      rw [h2, Nat.mul_comm (f n), Nat.mul_assoc, Nat.add_mul_mod_self_left]
      exact vl_mod (fun j hj => h j (by omega)) i h1

/-- Digits are what they are. -/
theorem vl_dig {f : Nat → Nat} {n : Nat} (h : ∀ j, j < n → f j < BB) (i : Nat) (hi : i < n) : f i = dg (vl n f) i := by
  have h1 := vl_mod h i (by omega)
  have h2 := vl_mod h (i + 1) (by omega)
  rw [mod_succ, h1, vl] at h2
  have := Nat.eq_of_mul_eq_mul_right (BB_pos i) (show dg (vl n f) i * BB ^ i = f i * BB ^ i by omega)
  exact this.symm

theorem vl_upd (f : Nat → Nat) (i v : Nat) : ∀ n, i < n → vl n (upd f i v) + f i * BB ^ i = vl n f + v * BB ^ i
  | 0, h => by omega
  | n + 1, h => by
    rw [vl, vl]
    by_cases e : i = n
    · subst e
      have h1 : vl i (upd f i v) = vl i f := vl_congr fun j hj => by unfold upd; rw [if_neg (by omega)]
      have h2 : upd f i v i = v := by unfold upd; rw [if_pos rfl]
      rw [h1, h2]; omega
    · have h1 := vl_upd f i v n (by omega)
      have h2 : upd f i v n = f n := by unfold upd; rw [if_neg (by omega)]
      rw [h2]; omega

theorem vl_zero : ∀ n, vl n (fun _ => 0) = 0
  | 0 => rfl
  | n + 1 => by rw [vl, vl_zero n]; simp

theorem vl_zeros {f : Nat → Nat} {m : Nat} : ∀ n, (∀ j, m ≤ j → j < n → f j = 0) → m ≤ n → vl n f = vl m f
  | 0, _, hm => by obtain rfl : m = 0 := by omega
                   rfl
  | n + 1, h, hm => by
    rcases Nat.lt_or_ge n m with h1 | h1
    · obtain rfl : m = n + 1 := by omega
      rfl
    · rw [vl, h n h1 (by omega), vl_zeros n (fun j a b => h j a (by omega)) h1]; simp

/-- A carry's step. -/
theorem add_step (x y c i : Nat) (hc : c * BB ^ i + (x + y) % BB ^ i = x % BB ^ i + y % BB ^ i) :
    (dg x i + dg y i + c) % BB = dg (x + y) i ∧ (dg x i + dg y i + c) / BB * BB ^ (i + 1) + (x + y) % BB ^ (i + 1) = x % BB ^ (i + 1) + y % BB ^ (i + 1) := by
  have h1 := mod_succ x i
  have h2 := mod_succ y i
  have h3 := mod_succ (x + y) i
  have hp := BB_pos i
  have e : x % BB ^ (i + 1) + y % BB ^ (i + 1) = (dg x i + dg y i + c) * BB ^ i + (x + y) % BB ^ i := by
    rw [h1, h2, Nat.add_mul, Nat.add_mul]; omega
  have hm : (x % BB ^ (i + 1) + y % BB ^ (i + 1)) % BB ^ (i + 1) = (x + y) % BB ^ (i + 1) := (Nat.add_mod _ _ _).symm
  have hl : (x + y) % BB ^ i < BB ^ i := Nat.mod_lt _ hp
  have hs : (dg x i + dg y i + c) % BB = dg (x + y) i := by
    rw [e, h3] at hm
    have h4 : ((dg x i + dg y i + c) * BB ^ i + (x + y) % BB ^ i) % BB ^ (i + 1) = (dg x i + dg y i + c) % BB * BB ^ i + (x + y) % BB ^ i := by
      rw [Nat.mod_pow_succ, Nat.add_comm ((dg x i + dg y i + c) * BB ^ i), Nat.add_mul_mod_self_right, Nat.mod_eq_of_lt hl, Nat.add_mul_div_right _ _ hp, Nat.div_eq_of_lt hl, Nat.zero_add, Nat.mul_comm (BB ^ i)]
      omega
    rw [h4] at hm
    exact Nat.eq_of_mul_eq_mul_right hp (by omega)
  refine ⟨hs, ?_⟩
  rw [e, h3, ← hs]
  have := Nat.div_add_mod (dg x i + dg y i + c) BB
  generalize (dg x i + dg y i + c) / BB = q at *
  generalize (dg x i + dg y i + c) % BB = r at *
  generalize (dg x i + dg y i + c) = s at *
  rw [Nat.pow_succ, ← this, Nat.add_mul]
  rw [Nat.mul_comm (BB ^ i) BB, ← Nat.mul_assoc, Nat.mul_comm q BB]
  omega

end Go.Proofs.Yteikihidblcljaa

/- Plain: bit lengths, comparing and subtracting by digits. No program. -/
namespace Go.Proofs.Yteikihidblcljaa

/-- How many bits. -/
def bl (x : Nat) : Nat := if x = 0 then 0 else x.log2 + 1

theorem bl_half {v : Nat} (h : v ≠ 0) : bl v = bl (v / 2) + 1 := by
  unfold bl
  rw [if_neg h, Nat.log2_def]
  by_cases h2 : v < 2
  · obtain rfl : v = 1 := by omega
    rfl
  · rw [if_pos (by omega), if_neg (show ¬ v / 2 = 0 by omega)]

theorem bl_lt (x : Nat) : x < 2 ^ bl x := by
  unfold bl
  by_cases h : x = 0
  · subst h; decide
  · rw [if_neg h]; exact Nat.lt_log2_self
theorem bl_le {x n : Nat} (h : x < 2 ^ n) : bl x ≤ n := by
  unfold bl
  by_cases h0 : x = 0
  · rw [if_pos h0]; omega
  · rw [if_neg h0]; have := (Nat.log2_lt h0).2 h; omega
theorem le_of_bl {x n : Nat} (h : n < bl x) : 2 ^ n ≤ x := by
  refine Nat.le_of_not_lt fun hc => ?_
  have := bl_le hc; omega
theorem bl_eq {x n : Nat} (h1 : 2 ^ n ≤ x) (h2 : x < 2 ^ (n + 1)) : bl x = n + 1 := by
  have a := bl_le h2
  rcases Nat.lt_or_ge n (bl x) with h | h
  · omega
  · have := bl_lt x
    have := Nat.pow_le_pow_right (n := 2) (by decide) h
    omega

theorem bl_top {x : Nat} (h : x ≠ 0) : bl x = 32 * (nd x - 1) + bl (dg x (nd x - 1)) := by
  have hp := nd_pos h
  have e := mod_succ x (nd x - 1)
  rw [show nd x - 1 + 1 = nd x by omega, Nat.mod_eq_of_lt (lt_nd x)] at e
  have ht := dg_top h
  have hl : x % BB ^ (nd x - 1) < BB ^ (nd x - 1) := Nat.mod_lt _ (BB_pos _)
  generalize dg x (nd x - 1) = d at *
  generalize x % BB ^ (nd x - 1) = r at *
  rw [BB_pow] at *
  generalize 32 * (nd x - 1) = m at *
  have hd : bl d ≠ 0 := by unfold bl; rw [if_neg ht]; omega
  obtain ⟨n, hn⟩ : ∃ n, bl d = n + 1 := ⟨bl d - 1, by omega⟩
  have h1 := le_of_bl (x := d) (n := n) (by omega)
  have h2 := bl_lt d
  rw [hn] at h2 ⊢
  have e1 : x = 2 ^ m * d + r := by rw [Nat.mul_comm]; omega
  rw [show m + (n + 1) = (m + n) + 1 by omega]
  refine bl_eq ?_ ?_
  · rw [Nat.pow_add]
    have := Nat.mul_le_mul_left (2 ^ m) h1
    omega
  · rw [show m + n + 1 = m + (n + 1) by omega, Nat.pow_add]
    have : 2 ^ m * (d + 1) ≤ 2 ^ m * 2 ^ (n + 1) := Nat.mul_le_mul_left _ h2
    rw [Nat.mul_add] at this
    omega

/-- Which is greater: -1, 0, 1. -/
def cmpN (x y : Nat) : Int := if x < y then -1 else if y < x then 1 else 0

theorem cmp_nd {x y : Nat} (h : nd x < nd y) : x < y :=
  Nat.lt_of_lt_of_le (lt_nd x) (le_of_nd h)

theorem cmp_step_lt {x y i : Nat} (h : x / BB ^ (i + 1) = y / BB ^ (i + 1)) (hd : dg x i < dg y i) : x < y := by
  have a := Nat.div_add_mod x (BB ^ (i + 1))
  have b := Nat.div_add_mod y (BB ^ (i + 1))
  rw [h, mod_succ] at a
  rw [mod_succ] at b
  have l1 : x % BB ^ i < BB ^ i := Nat.mod_lt _ (BB_pos _)
  have : (dg x i + 1) * BB ^ i ≤ dg y i * BB ^ i := Nat.mul_le_mul_right _ hd
  rw [Nat.add_mul, Nat.one_mul] at this
  generalize x % BB ^ i = p at *
  generalize y % BB ^ i = q at *
  omega
theorem cmp_step_eq {x y i : Nat} (h : x / BB ^ (i + 1) = y / BB ^ (i + 1)) (hd : dg x i = dg y i) : x / BB ^ i = y / BB ^ i := by
  have e : ∀ z, z / BB ^ i = z / BB ^ (i + 1) * BB + dg z i := by
    intro z
    unfold dg
    rw [Nat.pow_succ, ← Nat.div_div_eq_div_mul]
    have := Nat.div_add_mod (z / BB ^ i) BB
    rw [Nat.mul_comm] at this
    omega
  rw [e x, e y, h, hd]

/-- A borrow's step. -/
theorem sub_step (x y b i : Nat) (hxy : y ≤ x) (hb : b ≤ 1) (hc : x % BB ^ i + b * BB ^ i = (x - y) % BB ^ i + y % BB ^ i) :
    (dg x i + BB - dg y i - b) % BB = dg (x - y) i ∧ 1 - (dg x i + BB - dg y i - b) / BB ≤ 1 ∧ (dg x i + BB - dg y i - b) / BB ≤ 1 ∧
    x % BB ^ (i + 1) + (1 - (dg x i + BB - dg y i - b) / BB) * BB ^ (i + 1) = (x - y) % BB ^ (i + 1) + y % BB ^ (i + 1) := by
  obtain ⟨z, rfl⟩ : ∃ z, x = z + y := ⟨x - y, by omega⟩
  rw [Nat.add_sub_cancel] at *
  have l0 := dg_lt (z + y) i
  have l1 := dg_lt z i
  have l2 := dg_lt y i
  obtain ⟨s1, s2⟩ := add_step z y b i (by rw [Nat.add_comm]; exact hc)
  have hq : (dg z i + dg y i + b) / BB ≤ 1 := by
    have : (dg z i + dg y i + b) / 4294967296 ≤ 1 := by omega
    exact this
  have hdm := Nat.div_add_mod (dg z i + dg y i + b) BB
  rw [s1] at hdm
  have e : (dg (z + y) i + BB - dg y i - b) = dg z i + (1 - (dg z i + dg y i + b) / BB) * BB := by
    generalize (dg z i + dg y i + b) / BB = q at *
    have hB : BB = 4294967296 := rfl
    rcases (by omega : q = 0 ∨ q = 1) with rfl | rfl
    · rw [Nat.mul_zero] at hdm; rw [Nat.sub_zero, Nat.one_mul]; omega
    · rw [Nat.mul_one] at hdm; rw [Nat.sub_self, Nat.zero_mul]; omega
  rw [e]
  generalize (dg z i + dg y i + b) / BB = q at *
  have f1 : (dg z i + (1 - q) * BB) % BB = dg z i := by
    rw [Nat.add_mul_mod_self_right]; exact Nat.mod_eq_of_lt l1
  have f2 : (dg z i + (1 - q) * BB) / BB = 1 - q := by
    rw [Nat.add_mul_div_right _ _ (by decide), Nat.div_eq_of_lt l1, Nat.zero_add]
  rw [f1, f2]
  refine ⟨rfl, by omega, by omega, ?_⟩
  rw [show 1 - (1 - q) = q by omega, Nat.add_comm]
  exact s2

end Go.Proofs.Yteikihidblcljaa

/- The walks of the reference's digits: digit, trim, AddDigits .. -/
namespace Go.Proofs.Yteikihidblcljaa
open Go.RowKit
set_option linter.unusedSimpArgs false
set_option linter.unusedVariables false

/-- A slice of digits, told as a number. -/
structure Dgs (w : World) (a : Option Addr) (x : Nat) : Prop where
  nil : a = none → x = 0
  cell : ∀ b o v, a = some ⟨b, o, v⟩ → ∀ i, i < nd x → v = none ∧ w.cell? ⟨b, o + i, none⟩ = some (.int .u64 (dg x i))

theorem Dgs.keep {w w' : World} {a : Option Addr} {x : Nat} (h : Dgs w a x) (hb : ∀ b o v, w.cell? ⟨b, o, none⟩ = some v → w'.cell? ⟨b, o, none⟩ = some v) : Dgs w' a x :=
  ⟨h.nil, fun b o v e i hi => ⟨(h.cell b o v e i hi).1, hb _ _ _ (h.cell b o v e i hi).2⟩⟩
theorem Dgs.below {w w' : World} {a : Option Addr} {x : Nat} (h : Dgs w a x) (hb : Below w.heap.size w w') : Dgs w' a x :=
  h.keep fun b o v hc => by rw [hb.cell (p := ⟨b, o, none⟩) (World.block_lt_of_cell? _ _ hc), hc]
theorem Dgs.zero (w : World) : Dgs w none 0 := ⟨fun _ => rfl, fun _ _ _ h => by cases h⟩
theorem Dgs.some {w : World} {a : Option Addr} {x : Nat} (h : Dgs w a x) (hp : 0 < nd x) : ∃ b o, a = Option.some ⟨b, o, none⟩ := by
  cases a with
  | none => have := h.nil rfl; rw [this] at hp; simp [nd] at hp
  | some p => obtain ⟨b, o, v⟩ := p; obtain ⟨rfl, _⟩ := h.cell b o v rfl 0 hp; exact ⟨b, o, rfl⟩

/-- It returns the digits of z. -/
def DRet (z : Nat) (w : World) (e : Ending) (w' : World) : Prop := ∃ a c, e = .returned (.slice a (nd z) c) ∧ nd z ≤ c ∧ Dgs w' a z ∧ Below w.heap.size w w' ∧ ∀ b o v, a = some ⟨b, o, v⟩ → w.heap.size ≤ b

set_option maxHeartbeats 800000 in
theorem digit_any (a : Option Addr) (x c : Nat) (i : Nat) (w : World) (h : Dgs w a x) (hs : nd x ≤ 1073741824) :
    Calls Try.prog 130 #[.slice a (nd x) c, .int .i64 i] w fun e w' => e = .returned (.int .u64 (dg x i)) ∧ w = w' := by
  have h0 : (0 : Int) ≤ i := by omega
  have d0 : decide ((i : Int) < 0) = false := by simp
  by_cases hi : i < nd x
  · obtain ⟨b, o, rfl⟩ := h.some (by omega)
    have hc := (h.cell b o none rfl i hi).2
    have d1 : decide ((nd x : Int) ≤ i) = false := by simp; omega
    have h2 : (i : Int) < nd x := by omega
    clear h
    go_enter Try.func130, Try.ntmps130
    go_wp2
    go_ret
    exact ⟨rfl, rfl⟩
  · have hd : Hd (0 = dg x i) := ⟨(dg_high (by omega)).symm⟩
    have d1 : decide (nd x ≤ i) = true := by simp; omega
    clear h hi
    go_enter Try.func130, Try.ntmps130
    go_wp2
    go_ret
    exact ⟨ret_int (by rw [← hd.out]; rfl), rfl⟩

/-- trim, of a row that the call has made: n cells that hold the digits f. -/
theorem trim_row (b n cp z : Nat) (f : Nat → Nat) (w : World) (hn : n ≤ 4294967296) (hcp : n ≤ cp) (hf : ∀ j, j < n → f j < BB) (hz : vl n f = z) (hr : w.rowIs b 39 n fun j => .int .u64 (f j)) :
    Calls Try.prog 131 #[.slice (some ⟨b, 0, none⟩) n cp] w (fun e w' => ∃ k, e = .returned (.slice (some ⟨b, 0, none⟩) (nd z) cp) ∧ w' = w.drewN k) := by
  have HF := Hd.mk hf
  have HR := Hd.mk hr
  have HZ := Hd.mk hz
  clear hf hr hz
  go_enter Try.func131, Try.ntmps131
  go_wp2
  go_loopw [3] (fun v wr => ∃ (m k : Nat), m ≤ n ∧ v = .int .i64 m ∧ Hd (vl m f = z) ∧ wr = w.drewN k) (fun v _ => (intOf v).toNat)
  case atStart => exact ⟨n, 0, Nat.le_refl _, rfl, HZ, rfl⟩
  case round =>
    obtain ⟨m, k, hm, rfl, HV, rfl⟩ := hrel
    by_cases h0 : m = 0
    · subst h0
      have hz : Hd (nd z = 0) := ⟨by rw [← HV.out]; rfl⟩
      go_wp2
      go_ret
      exact ⟨k, by rw [hz.out]; rfl, rfl⟩
    · have h1 : (0 : Int) < m := by omega
      have hc : w.cell? ⟨b, m - 1, none⟩ = some (.int .u64 (f (m - 1))) := HR.out.cell (by omega)
      by_cases hd : f (m - 1) = 0
      · have hd' : ((f (m - 1) : Int) == 0) = true := by rw [beq_iff_eq]; omega
        clear hd
        go_wp2
        refine ⟨⟨m - 1, k, by omega, by congr 1; omega, ⟨?_⟩, rfl⟩, by simp [intOf]; omega⟩
        rw [← HV.out]
        obtain ⟨q, rfl⟩ : ∃ q, m = q + 1 := ⟨m - 1, by omega⟩
        have : f q = 0 := by simpa using hd'
        rw [vl, Nat.add_sub_cancel, this]; simp
      · have hd' : ((f (m - 1) : Int) == 0) = false := by rw [beq_eq_false_iff_ne]; omega
        have hz : Hd (nd z = m) := ⟨by
          have h2 : ∀ j, j < m → f j < BB := fun j hj => HF.out j (by omega)
          refine nd_of ?_ (by omega) ?_
          · rw [← HV.out]; exact vl_lt h2
          · rw [← HV.out, ← vl_dig h2 (m - 1) (by omega)]; exact hd⟩
        clear hd
        go_wp2
        go_ret
        exact ⟨k, by rw [hz.out]; rfl, rfl⟩

end Go.Proofs.Yteikihidblcljaa

/- The walks of the reference's AddDigits, Len, CmpDigits, SubDigits. -/
namespace Go.Proofs.Yteikihidblcljaa
open Go.RowKit
set_option linter.unusedSimpArgs false
set_option linter.unusedVariables false

theorem info_u64 : (Try.prog.info? 39).map (fun i => (i.zero, i.size, i.bytes)) = some (some (.int .u64 0), 1, 8) := by kernel_rfl

theorem make_u64 (n : Nat) (hn : n ≤ 35184372088832) (w : World) :
    (Instr.makeSlice 33 (.int .i64 (n : Int)) (.int .i64 (n : Int))).run Try.prog w = .ok (.slice (some ⟨w.heap.size, 0, none⟩) n n) (w.alloc (.cells (madeCells #[.int .u64 0] n) 39)) :=
  run_make_row' 33 39 (.int .u64 0) 8 Try.underlying33 info_u64 rfl .i64 .i64 n (by omega) (by omega) w

/-- A row that the call has made and filled. -/
structure Filled (w0 w : World) (b n : Nat) (f : Nat → Nat) : Prop where
  below : Below w0.heap.size w0 w
  own : w0.heap.size ≤ b
  row : w.rowIs b 39 n fun j => .int .u64 (f j)
  dig : ∀ j, f j < BB

theorem Filled.made (w : World) (n : Nat) : Filled w (w.alloc (.cells (madeCells #[.int .u64 0] n) 39)) w.heap.size n (fun _ => 0) where
  below := (Below.refl _ _).alloc (Nat.le_refl _) _
  own := Nat.le_refl _
  row := (World.rowIs_made w (.int .u64 0) n 39).congr fun i hi => rfl
  dig := fun j => by decide

theorem Filled.drewN {w0 w : World} {b n : Nat} {f : Nat → Nat} (h : Filled w0 w b n f) (k : Nat) : Filled w0 (w.drewN k) b n f where
  below := below_drewN h.below k
  own := h.own
  row := h.row
  dig := h.dig

theorem Filled.set {w0 w : World} {b n : Nat} {f : Nat → Nat} (h : Filled w0 w b n f) (i v : Nat) (hv : v < BB) : Filled w0 (w.setCell ⟨b, i, none⟩ (.int .u64 v)) b n (upd f i v) where
  below := h.below.setCell h.own _
  own := h.own
  row := (h.row.set i (.int .u64 v)).congr fun j hj => by
    unfold upd; by_cases e : j = i
    · rw [if_pos e, if_pos e]
    · rw [if_neg e, if_neg e]
  dig := fun j => by unfold upd; split; exact hv; exact h.dig j

theorem Filled.after {w0 w w' : World} {b n : Nat} {f : Nat → Nat} (h : Filled w0 w b n f) (hb : Below w.heap.size w w') : Filled w0 w' b n f where
  below := h.below.trans (hb.mono h.below.size)
  own := h.own
  row := h.row.of_block (hb.block b h.row.lt)
  dig := h.dig

/-- A filled row, trimmed, is handed back. -/
theorem filled_ret {w0 w : World} {b n z : Nat} {f : Nat → Nat} (h : Filled w0 w b n f) (hz : vl n f = z) {cp : Nat} (hcp : n ≤ cp) : DRet z w0 (.returned (.slice (some ⟨b, 0, none⟩) (nd z) cp)) w := by
  have hn : nd z ≤ n := by rw [← hz]; exact nd_le (vl_lt fun j _ => h.dig j)
  refine ⟨_, _, rfl, Nat.le_trans hn hcp, ⟨(fun e => by cases e), ?_⟩, h.below, fun b o v e => by cases e; exact h.own⟩
  intro b' o v e i hi
  cases e
  refine ⟨rfl, ?_⟩
  rw [Nat.zero_add, h.row.cell (by omega), vl_dig (fun j _ => h.dig j) i (by omega : i < n), hz]

theorem u64_in {s : Nat} (h : s < 18446744073709551616) : IntKind.u64.wrap (s : Int) = s := by rw [IntKind.wrap_u64]; omega

theorem tmod_BB (s : Nat) : Int.tmod (s : Int) 4294967296 = ((s % BB : Nat) : Int) := by
  rw [Int.tmod_eq_emod_of_nonneg (by omega)]; rfl
theorem tdiv_BB (s : Nat) : Int.tdiv (s : Int) 4294967296 = ((s / BB : Nat) : Int) := by
  rw [Int.tdiv_eq_ediv_of_nonneg (by omega)]; rfl

set_option maxHeartbeats 1600000 in
theorem addDigits_any (a : Option Addr) (x c : Nat) (a' : Option Addr) (y c' : Nat) (w : World) (h : Dgs w a x) (h' : Dgs w a' y) (hs : nd x ≤ 536870912) (hs' : nd y ≤ 536870912) :
    Calls Try.prog 106 #[.slice a (nd x) c, .slice a' (nd y) c'] w (DRet (x + y) w) := by
  obtain ⟨M, hM⟩ : ∃ M, max (nd x) (nd y) = M := ⟨_, rfl⟩
  have hmx : max (nd x : Int) (nd y : Int) = (M : Int) := by omega
  have hmk : ∀ w, (Instr.makeSlice 33 (.int .i64 ((M : Int) + 1)) (.int .i64 ((M : Int) + 1))).run Try.prog w = .ok (.slice (some ⟨w.heap.size, 0, none⟩) (M + 1) (M + 1)) (w.alloc (.cells (madeCells #[.int .u64 0] (M + 1)) 39)) := fun w => make_u64 (M + 1) (by omega) w
  have H := Hd.mk h
  have H' := Hd.mk h'
  have HM := Hd.mk hM
  have hnn : M ≤ 536870912 := by omega
  clear h h' hM
  go_enter Try.func106, Try.ntmps106
  go_wp2_with fail
  have F0 := Hd.mk (Filled.made w (M + 1))
  generalize (w.alloc (.cells (madeCells #[.int .u64 0] (M + 1)) 39)) = w1 at *
  generalize hb : w.heap.size = b at *
  have HB := Hd.mk hb
  clear hb hmk hmx
  go_loopw [7, 8] (fun cv i wr => ∃ (k cr : Nat) (f : Nat → Nat), k ≤ M + 1 ∧ i = .int .i64 k ∧ cv = .int .u64 cr ∧ cr < 4294967296 ∧ Hd (Filled w wr b (M + 1) f) ∧ Hd (∀ j, j < k → f j = dg (x + y) j) ∧ Hd (cr * BB ^ k + (x + y) % BB ^ k = x % BB ^ k + y % BB ^ k)) (fun _ i _ => M + 1 - (intOf i).toNat)
  case atStart => exact ⟨0, 0, _, Nat.zero_le _, rfl, rfl, by decide, F0, ⟨fun j hj => by omega⟩, ⟨by simp [Nat.mod_one]⟩⟩
  case round =>
    clear F0
    obtain ⟨k, cr, f, hk, rfl, rfl, hcr, HF, HD, HC⟩ := hrel
    have G := Hd.mk (H.out.below (HF.out.below))
    have G' := Hd.mk (H'.out.below (HF.out.below))
    by_cases hlt : k < M + 1
    · have hlt' : (k : Int) < (M : Int) + 1 := by omega
      have l1 := dg_lt x k
      have l2 := dg_lt y k
      have row := HF.out.row.cell hlt
      have frz := HF.out.row.frozen k
      go_wp2_with fail
      refine (digit_any a x c k _ G.out (by omega)).mono ?_; rintro e w' ⟨rfl, rfl⟩
      go_wp2_with fail
      refine (digit_any a' y c' k _ G'.out (by omega)).mono ?_; rintro e w' ⟨rfl, rfl⟩
      go_wp2_with fail
      obtain ⟨s1, s2⟩ := add_step x y cr k HC.out
      have v1 : ((dg x k : Int) + dg y k + cr) % 4294967296 = ((dg (x + y) k : Nat) : Int) := by rw [← s1]; rfl
      have v2 : ((dg x k : Int) + dg y k + cr) / 4294967296 = (((dg x k + dg y k + cr) / BB : Nat) : Int) := rfl
      rw [v1, v2]
      refine ⟨⟨k + 1, _, _, by omega, by go_num, rfl, by omega, ⟨HF.out.set k _ (dg_lt _ _)⟩, ⟨fun j hj => ?_⟩, ⟨s2⟩⟩, by simp [intOf]; omega⟩
      unfold upd
      by_cases e : j = k
      · rw [if_pos e, e]
      · rw [if_neg e]; exact HD.out j (by omega)
    · obtain rfl : k = M + 1 := by omega
      have hz : vl (M + 1) f = x + y := by
        rw [vl_congr HD.out, vl_dg]
        refine Nat.mod_eq_of_lt ?_
        have h1 : x < BB ^ M := Nat.lt_of_lt_of_le (lt_nd x) (Nat.pow_le_pow_right (by decide) (by have := HM.out; omega))
        have h2 : y < BB ^ M := Nat.lt_of_lt_of_le (lt_nd y) (Nat.pow_le_pow_right (by decide) (by have := HM.out; omega))
        rw [Nat.pow_succ, show BB ^ M * BB = BB ^ M * 4294967296 from rfl]; omega
      go_wp2_with fail
      refine (trim_row b (M + 1) (M + 1) (x + y) f _ (by omega) (Nat.le_refl _) (fun j _ => HF.out.dig j) hz HF.out.row).mono ?_
      have HZ := Hd.mk hz
      clear hz
      rintro e w' ⟨q, rfl, rfl⟩
      go_wp2_with fail
      go_ret
      exact filled_ret (HF.out.drewN q) HZ.out (Nat.le_refl _)

end Go.Proofs.Yteikihidblcljaa

/- The walks of the reference's Len, CmpDigits, SubDigits. -/
namespace Go.Proofs.Yteikihidblcljaa
open Go.RowKit
set_option linter.unusedSimpArgs false
set_option linter.unusedVariables false

set_option maxHeartbeats 1600000 in
theorem len_any (a : Option Addr) (x c : Nat) (w : World) (h : Dgs w a x) (hs : nd x ≤ 536870912) :
    Calls Try.prog 118 #[.slice a (nd x) c] w fun e w' => e = .returned (.int .i64 (bl x)) ∧ w = w' := by
  by_cases h0 : x = 0
  · subst h0
    have hn : nd 0 = 0 := rfl
    rw [hn]
    clear h hs hn
    go_enter Try.func118, Try.ntmps118
    go_wp2
    go_ret
    exact ⟨rfl, rfl⟩
  · have hp := nd_pos h0
    obtain ⟨b, o, rfl⟩ := h.some hp
    have hc := (h.cell b o none rfl (nd x - 1) (by omega)).2
    have d0 : ((nd x : Int) == 0) = false := by rw [beq_eq_false_iff_ne]; omega
    have HT := Hd.mk (bl_top h0)
    have l1 := dg_lt x (nd x - 1)
    clear h
    generalize nd x = N at *
    generalize dg x (N - 1) = d at *
    clear h0
    go_enter Try.func118, Try.ntmps118
    go_wp2
    go_loop [3, 4] (fun n v => ∃ (k u : Nat), n = .int .i64 k ∧ v = .int .u64 u ∧ u < 4294967296 ∧ k ≤ 17179869184 + 32 ∧ Hd (k + bl u = bl x) ∧ k + bl u ≤ 17179869184 + 32) (fun _ v => (intOf v).toNat)
    case atStart =>
      have e : (32 * ((N : Int) - 1)) = ((32 * (N - 1) : Nat) : Int) := by omega
      have := bl_le (x := d) (n := 32) l1
      exact ⟨32 * (N - 1), d, by rw [e], rfl, l1, by omega, ⟨HT.out.symm⟩, by omega⟩
    case round =>
      obtain ⟨k, u, rfl, rfl, hu, hk, HE, hk2⟩ := hrel
      by_cases hz : u = 0
      · subst hz
        have H := Hd.mk (show (k : Int) = bl x by have := HE.out; rw [show bl 0 = 0 from rfl] at this; omega)
        go_wp2
        go_ret
        exact ⟨ret_int H.out, rfl⟩
      · have H := Hd.mk (bl_half hz)
        have hz' : (0 : Int) < u := by omega
        have hk3 : k + 1 ≤ 17179869184 + 32 := by have := bl_half hz; omega
        go_wp2
        refine ⟨⟨k + 1, u / 2, by go_num, rfl, by omega, by omega, ⟨by have := HE.out; rw [H.out] at this; omega⟩, by have := H.out; omega⟩, by simp [intOf]; omega⟩

set_option maxHeartbeats 1600000 in
theorem cmpDigits_any (a : Option Addr) (x c : Nat) (a' : Option Addr) (y c' : Nat) (w : World) (h : Dgs w a x) (h' : Dgs w a' y) (hs : nd x ≤ 536870912) (hs' : nd y ≤ 536870912) :
    Calls Try.prog 107 #[.slice a (nd x) c, .slice a' (nd y) c'] w fun e w' => ∃ k, e = .returned (.int .i64 (cmpN x y)) ∧ w' = w.drewN k := by
  by_cases e1 : nd x < nd y
  · have H : Hd (-1 = cmpN x y) := ⟨by unfold cmpN; rw [if_pos (cmp_nd e1)]⟩
    have d1 : ((nd x : Int) != nd y) = true := by rw [bne_iff_ne]; omega
    clear h h'
    go_enter Try.func107, Try.ntmps107
    go_wp2
    go_ret
    exact ⟨0, ret_int H.out, rfl⟩
  by_cases e2 : nd y < nd x
  · have H : Hd (1 = cmpN x y) := ⟨by have := cmp_nd e2; unfold cmpN; rw [if_neg (by omega), if_pos this]⟩
    have d1 : ((nd x : Int) != nd y) = true := by rw [bne_iff_ne]; omega
    clear h h'
    go_enter Try.func107, Try.ntmps107
    go_wp2
    go_ret
    exact ⟨0, ret_int H.out, rfl⟩
  have e3 : nd y = nd x := by omega
  obtain ⟨N, hN⟩ : ∃ N, nd x = N := ⟨_, rfl⟩
  rw [e3, hN]
  have HN := Hd.mk hN
  have HE := Hd.mk e3
  have hs2 : N ≤ 536870912 := by omega
  have H := Hd.mk h
  have H' := Hd.mk h'
  have d1 : ((N : Int) != N) = false := by simp
  clear h h' hs hs' e1 e2 e3 hN
  go_enter Try.func107, Try.ntmps107
  go_wp2
  go_loopw [5] (fun v wr => ∃ (m k : Nat), m ≤ N ∧ v = .int .i64 ((m : Int) - 1) ∧ Hd (x / BB ^ m = y / BB ^ m) ∧ wr = w.drewN k) (fun v _ => (intOf v + 1).toNat)
  case atStart => exact ⟨N, 0, Nat.le_refl _, rfl, ⟨by rw [Nat.div_eq_of_lt (by have := lt_nd x; rw [HN.out] at this; exact this), Nat.div_eq_of_lt (by have := lt_nd y; rw [HE.out, HN.out] at this; exact this)]⟩, rfl⟩
  case round =>
    obtain ⟨m, k, hm, rfl, HV, rfl⟩ := hrel
    by_cases h0 : m = 0
    · subst h0
      have hz : Hd (0 = cmpN x y) := ⟨by
        have := HV.out; simp at this; subst this
        unfold cmpN; rw [if_neg (by omega), if_neg (by omega)]⟩
      go_wp2
      go_ret
      exact ⟨k, ret_int hz.out, rfl⟩
    · obtain ⟨i, rfl⟩ : ∃ i, m = i + 1 := ⟨m - 1, by omega⟩
      clear h0
      obtain ⟨b, o, rfl⟩ := H.out.some (by rw [HN.out]; omega)
      obtain ⟨b', o', rfl⟩ := H'.out.some (by rw [HE.out, HN.out]; omega)
      have c1 := (H.out.cell b o none rfl i (by rw [HN.out]; omega)).2
      have c2 := (H'.out.cell b' o' none rfl i (by rw [HE.out, HN.out]; omega)).2
      have i0 : (0 : Int) ≤ i := by omega
      have i1 : (i : Int) < N := by omega
      by_cases g1 : dg x i < dg y i
      · have R := Hd.mk (cmp_step_lt HV.out g1)
        have G1 : decide (dg x i < dg y i) = true := by simp; omega
        clear g1
        go_wp2_with fail
        go_quiet (fail)
        go_wp2
        go_ret
        exact ⟨_, ret_int (by unfold cmpN; rw [if_pos R.out]), by rw [World.drewN_drewN]⟩
      · by_cases g2 : dg y i < dg x i
        · have R := Hd.mk (cmp_step_lt HV.out.symm g2)
          have G1 : decide (dg x i < dg y i) = false := by simp; omega
          have G2 : decide (dg y i < dg x i) = true := by simp; omega
          clear g1 g2
          go_wp2_with fail
          go_quiet (fail)
          go_wp2_with fail
          go_quiet (fail)
          go_wp2
          go_ret
          exact ⟨_, ret_int (by unfold cmpN; rw [if_neg (by have := R.out; omega), if_pos R.out]), by rw [World.drewN_drewN, World.drewN_drewN]⟩
        · have R := Hd.mk (cmp_step_eq HV.out (by omega : dg x i = dg y i))
          have G1 : decide (dg x i < dg y i) = false := by simp; omega
          have G2 : decide (dg y i < dg x i) = false := by simp; omega
          clear g1 g2
          go_wp2_with fail
          go_quiet (fail)
          go_wp2_with fail
          go_quiet (fail)
          go_wp2
          refine ⟨⟨i, _, by omega, by congr 1, R, rfl⟩, by simp [intOf]⟩

end Go.Proofs.Yteikihidblcljaa

/- The walk of the reference's SubDigits. -/
namespace Go.Proofs.Yteikihidblcljaa
open Go.RowKit
set_option linter.unusedSimpArgs false
set_option linter.unusedVariables false

theorem Dgs.drewN {w : World} {a : Option Addr} {x : Nat} (h : Dgs w a x) (n : Nat) : Dgs (w.drewN n) a x := h.keep fun _ _ _ hc => hc

/-- Borrow's arithmetic, as the walk tells it. -/
theorem sub_digit (p q b : Nat) (hp : p < 4294967296) (hq : q < 4294967296) (hb : b ≤ 1) :
    (p : Int) + 4294967296 - q - b = ((p + BB - q - b : Nat) : Int) ∧ p + BB - q - b < 8589934592 := by
  show (p : Int) + 4294967296 - q - b = ((p + 4294967296 - q - b : Nat) : Int) ∧ p + 4294967296 - q - b < 8589934592
  omega

set_option maxHeartbeats 1600000 in
theorem subDigits_any (a : Option Addr) (x c : Nat) (a' : Option Addr) (y c' : Nat) (w : World) (h : Dgs w a x) (h' : Dgs w a' y) (hs : nd x ≤ 536870912) (hs' : nd y ≤ 536870912) (hxy : y ≤ x) :
    Calls Try.prog 108 #[.slice a (nd x) c, .slice a' (nd y) c'] w (DRet (x - y) w) := by
  obtain ⟨N, hN⟩ : ∃ N, nd x = N := ⟨_, rfl⟩
  have hmk : ∀ w, (Instr.makeSlice 33 (.int .i64 (N : Int)) (.int .i64 (N : Int))).run Try.prog w = .ok (.slice (some ⟨w.heap.size, 0, none⟩) N N) (w.alloc (.cells (madeCells #[.int .u64 0] N) 39)) := fun w => make_u64 N (by omega) w
  have H := Hd.mk h
  have H' := Hd.mk h'
  have HN := Hd.mk hN
  have HXY := Hd.mk hxy
  have hnn : N ≤ 536870912 := by omega
  rw [hN]
  clear h h' hN hs hxy
  go_enter Try.func108, Try.ntmps108
  go_wp2_with fail
  have F0 := Hd.mk (Filled.made w N)
  generalize (w.alloc (.cells (madeCells #[.int .u64 0] N) 39)) = w1 at *
  generalize hb : w.heap.size = b at *
  have HB := Hd.mk hb
  clear hb hmk
  go_loopw [6, 7] (fun cv i wr => ∃ (k cr : Nat) (f : Nat → Nat), k ≤ N ∧ i = .int .i64 k ∧ cv = .int .u64 cr ∧ cr ≤ 1 ∧ Hd (Filled w wr b N f) ∧ Hd (∀ j, j < k → f j = dg (x - y) j) ∧ Hd (x % BB ^ k + cr * BB ^ k = (x - y) % BB ^ k + y % BB ^ k)) (fun _ i _ => N - (intOf i).toNat)
  case atStart => exact ⟨0, 0, _, Nat.zero_le _, rfl, rfl, by decide, F0, ⟨fun j hj => by omega⟩, ⟨by simp [Nat.mod_one]⟩⟩
  case round =>
    clear F0
    obtain ⟨k, cr, f, hk, rfl, rfl, hcr, HF, HD, HC⟩ := hrel
    have G := Hd.mk (H.out.below (HF.out.below))
    have G' := Hd.mk (H'.out.below (HF.out.below))
    by_cases hlt : k < N
    · have hlt' : (k : Int) < (N : Int) := by omega
      have k0 : (0 : Int) ≤ k := by omega
      have l1 := dg_lt x k
      have l2 := dg_lt y k
      have row := HF.out.row.cell hlt
      have frz := HF.out.row.frozen k
      obtain ⟨b', o', rfl⟩ := H.out.some (by rw [HN.out]; omega)
      have c1 := (G.out.cell b' o' none rfl k (by rw [HN.out]; omega)).2
      obtain ⟨e1, e2⟩ := sub_digit (dg x k) (dg y k) cr l1 l2 hcr
      obtain ⟨s1, s2, s3, s4⟩ := sub_step x y cr k HXY.out hcr HC.out
      have S4 := Hd.mk s4
      have S1 := Hd.mk s1
      clear s1 s4
      go_wp2_with fail
      go_quiet ((go_at_call 130; exact Calls.quiet_of_same ((digit_any a' y c' k _ (G'.out.drewN _) (by omega)).mono fun _ _ h => ⟨h.1, h.2.symm⟩)))
      go_wp2_with fail
      have v1 : ((dg x k + BB - dg y k - cr : Nat) : Int) % 4294967296 = ((dg (x - y) k : Nat) : Int) := by rw [← S1.out]; rfl
      have v2 : 1 - ((dg x k + BB - dg y k - cr : Nat) : Int) / 4294967296 = ((1 - (dg x k + BB - dg y k - cr) / BB : Nat) : Int) := by
        rw [show ((dg x k + BB - dg y k - cr : Nat) : Int) / 4294967296 = (((dg x k + BB - dg y k - cr) / BB : Nat) : Int) from rfl]
        generalize (dg x k + BB - dg y k - cr) / BB = q at *
        omega
      rw [v1, v2]
      refine ⟨⟨k + 1, _, _, by omega, by go_num, rfl, s2, ⟨(HF.out.drewN nq).set k _ (dg_lt _ _)⟩, ⟨fun j hj => ?_⟩, S4⟩, by simp [intOf]; omega⟩
      unfold upd
      by_cases e : j = k
      · rw [if_pos e, e]
      · rw [if_neg e]; exact HD.out j (by omega)
    · obtain rfl : k = N := by omega
      have hz : vl k f = x - y := by
        rw [vl_congr HD.out, vl_dg]
        refine Nat.mod_eq_of_lt ?_
        have h1 : x < BB ^ k := Nat.lt_of_lt_of_le (lt_nd x) (Nat.pow_le_pow_right (by decide) (by have := HN.out; omega))
        omega
      go_wp2_with fail
      refine (trim_row b k k (x - y) f _ (by omega) (Nat.le_refl _) (fun j _ => HF.out.dig j) hz HF.out.row).mono ?_
      have HZ := Hd.mk hz
      clear hz
      rintro e w' ⟨q, rfl, rfl⟩
      go_wp2_with fail
      go_ret
      exact filled_ret (HF.out.drewN q) HZ.out (Nat.le_refl _)

end Go.Proofs.Yteikihidblcljaa

/- The walk of the reference's MulDigits. -/
namespace Go.Proofs.Yteikihidblcljaa
open Go.RowKit
set_option linter.unusedSimpArgs false
set_option linter.unusedVariables false

/-- A step of the inner loop. -/
theorem mul_step (V V' A g d c y i k : Nat) (h : V + c * BB ^ (i + k) = A + d * BB ^ i * (y % BB ^ k))
    (hu : V' + g * BB ^ (i + k) = V + (g + d * dg y k + c) % BB * BB ^ (i + k)) :
    V' + (g + d * dg y k + c) / BB * BB ^ (i + (k + 1)) = A + d * BB ^ i * (y % BB ^ (k + 1)) := by
  rw [mod_succ]
  have e := Nat.div_add_mod (g + d * dg y k + c) BB
  have e1 : BB ^ (i + (k + 1)) = BB * BB ^ (i + k) := by rw [← Nat.add_assoc, Nat.pow_succ, Nat.mul_comm]
  have e2 : d * BB ^ i * (y % BB ^ k + dg y k * BB ^ k) = d * BB ^ i * (y % BB ^ k) + d * dg y k * BB ^ (i + k) := by
    rw [Nat.mul_add, Nat.pow_add]
    congr 1
    simp only [Nat.mul_assoc, Nat.mul_comm, Nat.mul_left_comm]
  rw [e1, e2]
  generalize dg y k = f at *
  generalize (g + d * f + c) % BB = r at *
  generalize (g + d * f + c) / BB = q at *
  generalize BB ^ (i + k) = Q at *
  have e3 : (BB * q + r) * Q = (g + d * f + c) * Q := by rw [e]
  rw [Nat.add_mul, Nat.add_mul, Nat.add_mul] at e3
  rw [show q * (BB * Q) = BB * q * Q by simp only [Nat.mul_assoc, Nat.mul_comm, Nat.mul_left_comm]]
  generalize BB * q * Q = z at *
  omega

/-- The inner loop's sum fits. -/
theorem mul_fits (g d e c : Nat) (hg : g < 4294967296) (hd : d < 4294967296) (he : e < 4294967296) (hc : c < 4294967296) : d * e ≤ 18446744065119617025 ∧ g + d * e + c < 18446744073709551616 ∧ (g + d * e + c) / BB < 4294967296 := by
  have h1 : d * e ≤ 4294967295 * 4294967295 := Nat.mul_le_mul (by omega) (by omega)
  generalize d * e = p at *
  refine ⟨by omega, by omega, ?_⟩
  show (g + p + c) / 4294967296 < 4294967296
  omega

set_option maxHeartbeats 4000000 in
set_option maxRecDepth 100000 in
theorem mulDigits_any (a : Option Addr) (x c : Nat) (a' : Option Addr) (y c' : Nat) (w : World) (h : Dgs w a x) (h' : Dgs w a' y) (hs : nd x ≤ 536870912) (hs' : nd y ≤ 536870912) :
    Calls Try.prog 112 #[.slice a (nd x) c, .slice a' (nd y) c'] w (DRet (x * y) w) := by
  obtain ⟨N, hN⟩ : ∃ N, nd x = N := ⟨_, rfl⟩
  obtain ⟨M, hM⟩ : ∃ M, nd y = M := ⟨_, rfl⟩
  have hmk : ∀ w, (Instr.makeSlice 33 (.int .i64 ((N : Int) + M + 1)) (.int .i64 ((N : Int) + M + 1))).run Try.prog w = .ok (.slice (some ⟨w.heap.size, 0, none⟩) (N + M + 1) (N + M + 1)) (w.alloc (.cells (madeCells #[.int .u64 0] (N + M + 1)) 39)) := fun w => make_u64 (N + M + 1) (by omega) w
  have H := Hd.mk h
  have H' := Hd.mk h'
  have HN := Hd.mk hN
  have HM := Hd.mk hM
  have hnn : N ≤ 536870912 := by omega
  have hmm : M ≤ 536870912 := by omega
  rw [hN, hM]
  clear h h' hN hs hs' hM
  go_enter Try.func112, Try.ntmps112
  go_wp2_with fail
  have F0 := Hd.mk (Filled.made w (N + M + 1))
  generalize (w.alloc (.cells (madeCells #[.int .u64 0] (N + M + 1)) 39)) = w1 at *
  generalize hb : w.heap.size = b at *
  have HB := Hd.mk hb
  clear hb hmk
  go_loopw [6] (fun iv wr => ∃ (i : Nat) (f : Nat → Nat), i ≤ N ∧ iv = .int .i64 i ∧ Hd (Filled w wr b (N + M + 1) f) ∧ Hd (vl (N + M + 1) f = x % BB ^ i * y)) (fun iv _ => N - (intOf iv).toNat)
  case atStart => exact ⟨0, _, Nat.zero_le _, rfl, F0, ⟨by simp [Nat.mod_one, vl_zero]⟩⟩
  case round =>
    clear F0
    obtain ⟨i, f, hi, rfl, HF, HV⟩ := hrel
    have G := Hd.mk (H.out.below (HF.out.below))
    have G' := Hd.mk (H'.out.below (HF.out.below))
    by_cases hlt : i < N
    · have hlt' : (i : Int) < (N : Int) := by omega
      have i0 : (0 : Int) ≤ i := by omega
      have l1 := dg_lt x i
      obtain ⟨b', o', rfl⟩ := H.out.some (by rw [HN.out]; omega)
      have hf0 : Hd (f (i + M) = 0) := ⟨by
        rw [vl_dig (fun j _ => HF.out.dig j) (i + M) (by omega : i + M < N + M + 1), HV.out]
        refine dg_zero ?_
        rw [Nat.pow_add]
        refine Nat.mul_lt_mul_of_lt_of_le (Nat.mod_lt _ (BB_pos _)) ?_ (BB_pos _)
        have := lt_nd y; rw [HM.out] at this; omega⟩
      go_wp2_with fail
      go_loopw [7, 8] (fun cv kv wr => ∃ (k cr : Nat) (g : Nat → Nat), k ≤ M ∧ kv = .int .i64 k ∧ cv = .int .u64 cr ∧ cr < 4294967296 ∧ Hd (Filled w wr b (N + M + 1) g) ∧ Hd (g (i + M) = 0) ∧ Hd (vl (N + M + 1) g + cr * BB ^ (i + k) = x % BB ^ i * y + dg x i * BB ^ i * (y % BB ^ k))) (fun _ kv _ => M - (intOf kv).toNat)
      case atStart => exact ⟨0, 0, f, Nat.zero_le _, rfl, rfl, by decide, HF, hf0, ⟨by simp [Nat.mod_one, HV.out]⟩⟩
      case round =>
        obtain ⟨k, cr, g, hk, rfl, rfl, hcr, HG, G0, HC⟩ := hrel
        by_cases hlk : k < M
        · have hlk' : (k : Int) < (M : Int) := by omega
          have k0 : (0 : Int) ≤ k := by omega
          have l2 := dg_lt y k
          obtain ⟨b2, o2, rfl⟩ := H'.out.some (by rw [HM.out]; omega)
          have K1 := Hd.mk (H.out.below (HG.out.below))
          have K2 := Hd.mk (H'.out.below (HG.out.below))
          have c1 := (K1.out.cell b' o' none rfl i (by rw [HN.out]; omega)).2
          have c2 := (K2.out.cell b2 o2 none rfl k (by rw [HM.out]; omega)).2
          have row := HG.out.row.cell (show i + k < N + M + 1 by omega)
          have frz := HG.out.row.frozen (i + k)
          have lg := HG.out.dig (i + k)
          obtain ⟨m1, m2, m3⟩ := mul_fits (g (i + k)) (dg x i) (dg y k) cr lg l1 l2 hcr
          have MS := fun V' => mul_step (vl (N + M + 1) g) V' (x % BB ^ i * y) (g (i + k)) (dg x i) cr y i k HC.out
          have MH := Hd.mk MS
          clear MS
          have p0 : (dg x i : Int) * dg y k = ((dg x i * dg y k : Nat) : Int) := by omega
          generalize dg x i * dg y k = P at *
          go_wp2_with fail
          go_quiet (fail)
          go_wp2_with fail
          have v1 : ((g (i + k) : Int) + P + cr) % 4294967296 = (((g (i + k) + P + cr) % BB : Nat) : Int) := rfl
          have v2 : ((g (i + k) : Int) + P + cr) / 4294967296 = (((g (i + k) + P + cr) / BB : Nat) : Int) := rfl
          rw [v1, v2]
          refine ⟨⟨k + 1, _, _, by omega, by go_num, rfl, m3, ⟨(HG.out.drewN nq).set (i + k) _ (Nat.mod_lt _ (by decide))⟩, ⟨?_⟩, ⟨?_⟩⟩, by simp [intOf]; omega⟩
          · unfold upd; rw [if_neg (by omega)]; exact G0.out
          · exact MH.out _ (vl_upd g (i + k) _ (N + M + 1) (by omega))
        · obtain rfl : k = M := by omega
          have row := HG.out.row.cell (show i + k < N + k + 1 by omega)
          have frz := HG.out.row.frozen (i + k)
          rw [G0.out] at row
          go_wp2_with fail
          refine ⟨⟨i + 1, _, by omega, by go_num, ⟨HG.out.set (i + k) cr hcr⟩, ⟨?_⟩⟩, by simp [intOf]; omega⟩
          have := vl_upd g (i + k) cr (N + k + 1) (by omega)
          rw [G0.out, Nat.zero_mul, Nat.add_zero, HC.out] at this
          rw [this, mod_succ, Nat.add_mul, Nat.mod_eq_of_lt (show y < BB ^ k by have := lt_nd y; rw [HM.out] at this; exact this)]
    · obtain rfl : i = N := by omega
      have hz : vl (i + M + 1) f = x * y := by
        rw [HV.out, Nat.mod_eq_of_lt]
        have := lt_nd x; rw [HN.out] at this; exact this
      go_wp2_with fail
      refine (trim_row b (i + M + 1) (i + M + 1) (x * y) f _ (by omega) (Nat.le_refl _) (fun j _ => HF.out.dig j) hz HF.out.row).mono ?_
      have HZ := Hd.mk hz
      clear hz
      rintro e w' ⟨q, rfl, rfl⟩
      go_wp2_with fail
      go_ret
      exact filled_ret (HF.out.drewN q) HZ.out (Nat.le_refl _)

end Go.Proofs.Yteikihidblcljaa

/- The walk of the reference's ShiftUp. -/
namespace Go.Proofs.Yteikihidblcljaa
open Go.RowKit
set_option linter.unusedSimpArgs false
set_option linter.unusedVariables false

theorem up_low (x i q r : Nat) (hr : r < 32) (f : Nat → Nat) (n : Nat) (hf : ∀ j, f j < BB) (hn : i + q < n) (hv : vl n f = x % BB ^ i * (BB ^ q * 2 ^ r)) :
    f (i + q) < 2 ^ r ∧ (i + q + 1 < n → f (i + q + 1) = 0) := by
  have hl : x % BB ^ i * (BB ^ q * 2 ^ r) < BB ^ (i + q) * 2 ^ r := by
    rw [← Nat.mul_assoc, Nat.pow_add]
    refine Nat.mul_lt_mul_of_pos_right ?_ (Nat.pow_pos (by decide))
    exact Nat.mul_lt_mul_of_pos_right (Nat.mod_lt _ (BB_pos _)) (BB_pos _)
  constructor
  · rw [vl_dig (fun j _ => hf j) (i + q) hn, hv]
    unfold dg
    refine Nat.lt_of_le_of_lt (Nat.mod_le _ _) ?_
    rw [Nat.div_lt_iff_lt_mul (BB_pos _), Nat.mul_comm (2 ^ r)]
    exact hl
  · intro h2
    rw [vl_dig (fun j _ => hf j) (i + q + 1) h2, hv]
    refine dg_zero (Nat.lt_of_lt_of_le hl ?_)
    rw [Nat.pow_succ]
    refine Nat.mul_le_mul_left _ ?_
    exact Nat.pow_le_pow_right (by decide) (by omega : r ≤ 32)

theorem up_fits (d r g : Nat) (hr : r < 32) (hd : d < 4294967296) (hg : g < 2 ^ r) : g + (d * 2 ^ r) % BB < 4294967296 ∧ d * 2 ^ r < 18446744073709551616 ∧ (d * 2 ^ r) / BB < 4294967296 := by
  have e : BB = 2 ^ r * 2 ^ (32 - r) := by rw [← Nat.pow_add, show r + (32 - r) = 32 by omega]
  have h1 : (d * 2 ^ r) % BB = 2 ^ r * (d % 2 ^ (32 - r)) := by rw [e, Nat.mul_comm d, Nat.mul_mod_mul_left]
  have h2 : d % 2 ^ (32 - r) + 1 ≤ 2 ^ (32 - r) := Nat.mod_lt _ (Nat.pow_pos (by decide))
  have h3 := Nat.mul_le_mul_left (2 ^ r) h2
  rw [← e, Nat.mul_add, ← h1, Nat.mul_one, show BB = 4294967296 from rfl] at h3
  have h4 : 2 ^ r ≤ 2 ^ 31 := Nat.pow_le_pow_right (by decide) (by omega)
  have h5 : d * 2 ^ r ≤ 4294967295 * 2147483648 := Nat.mul_le_mul (by omega) h4
  refine ⟨by rw [show BB = 4294967296 from rfl]; omega, by omega, ?_⟩
  rw [show BB = 4294967296 from rfl]; omega

theorem up_step (x i q r g V V1 V2 : Nat) (hv : V = x % BB ^ i * (BB ^ q * 2 ^ r))
    (h1 : V1 + g * BB ^ (i + q) = V + (g + (dg x i * 2 ^ r) % BB) * BB ^ (i + q)) (h2 : V2 = V1 + (dg x i * 2 ^ r) / BB * BB ^ (i + q + 1)) :
    V2 = x % BB ^ (i + 1) * (BB ^ q * 2 ^ r) := by
  rw [mod_succ, Nat.add_mul, h2]
  have e := Nat.div_add_mod (dg x i * 2 ^ r) BB
  have e2 : dg x i * BB ^ i * (BB ^ q * 2 ^ r) = (dg x i * 2 ^ r) * BB ^ (i + q) := by
    rw [Nat.pow_add]; simp only [Nat.mul_assoc, Nat.mul_comm, Nat.mul_left_comm]
  rw [e2, Nat.pow_succ]
  generalize dg x i * 2 ^ r = S at *
  have e3 : S * BB ^ (i + q) = (BB * (S / BB) + S % BB) * BB ^ (i + q) := by rw [e]
  rw [e3, ← hv]
  generalize S / BB = a at *
  generalize S % BB = b at *
  generalize BB ^ (i + q) = Q at *
  rw [Nat.add_mul] at h1 ⊢
  rw [show a * (Q * BB) = BB * a * Q by simp only [Nat.mul_assoc, Nat.mul_comm, Nat.mul_left_comm]]
  generalize BB * a * Q = z at *
  omega

set_option maxHeartbeats 4000000 in
set_option maxRecDepth 100000 in
theorem shiftUp_any (a : Option Addr) (x c n : Nat) (w : World) (h : Dgs w a x) (hs : nd x ≤ 536870912) (hn : n ≤ 536870912) :
    Calls Try.prog 120 #[.slice a (nd x) c, .int .i64 n] w (DRet (x * 2 ^ n) w) := by
  by_cases h0 : x = 0
  · subst h0
    rw [Nat.zero_mul]
    have hn : nd 0 = 0 := rfl
    rw [hn]
    clear h hs hn
    go_enter Try.func120, Try.ntmps120
    go_wp2
    go_ret
    exact ⟨none, 0, rfl, Nat.zero_le _, Dgs.zero _, Below.refl _ _, fun _ _ _ e => by cases e⟩
  · have hp := nd_pos h0
    obtain ⟨N, hN⟩ : ∃ N, nd x = N := ⟨_, rfl⟩
    obtain ⟨q, hq⟩ : ∃ q, n / 32 = q := ⟨_, rfl⟩
    obtain ⟨r, hr⟩ : ∃ r, n % 32 = r := ⟨_, rfl⟩
    have q1 : Int.tdiv (n : Int) 32 = q := by rw [Int.tdiv_eq_ediv_of_nonneg (by omega)]; omega
    have r1 : Int.tmod (n : Int) 32 = r := by rw [Int.tmod_eq_emod_of_nonneg (by omega)]; omega
    have q2 : (n : Int) / 32 = q := by omega
    have r2 : (n : Int) % 32 = r := by omega
    have hr3 : r < 32 := by omega
    have hq3 : q ≤ 536870912 := by omega
    have r0 : (0 : Int) ≤ r := by omega
    obtain ⟨b', o', rfl⟩ := h.some hp
    have H := Hd.mk h
    have HN := Hd.mk hN
    have HQ := Hd.mk (show n = 32 * q + r by omega)
    have hnn : N ≤ 536870912 := by omega
    have hmk : ∀ w, (Instr.makeSlice 33 (.int .i64 ((N : Int) + q + 1)) (.int .i64 ((N : Int) + q + 1))).run Try.prog w = .ok (.slice (some ⟨w.heap.size, 0, none⟩) (N + q + 1) (N + q + 1)) (w.alloc (.cells (madeCells #[.int .u64 0] (N + q + 1)) 39)) := fun w => make_u64 (N + q + 1) (by omega) w
    have d0 : ((N : Int) == 0) = false := by rw [beq_eq_false_iff_ne]; omega
    rw [hN]
    clear h hN hs hp h0 hq hr
    go_enter Try.func120, Try.ntmps120
    go_wp2_with fail
    have F0 := Hd.mk (Filled.made w (N + q + 1))
    generalize (w.alloc (.cells (madeCells #[.int .u64 0] (N + q + 1)) 39)) = w1 at *
    generalize hb : w.heap.size = b at *
    have HB := Hd.mk hb
    clear hb hmk
    go_loopw [6] (fun iv wr => ∃ (i : Nat) (f : Nat → Nat), i ≤ N ∧ iv = .int .i64 i ∧ Hd (Filled w wr b (N + q + 1) f) ∧ Hd (vl (N + q + 1) f = x % BB ^ i * (BB ^ q * 2 ^ r))) (fun iv _ => N - (intOf iv).toNat)
    case atStart => exact ⟨0, _, Nat.zero_le _, rfl, F0, ⟨by simp [Nat.mod_one, vl_zero]⟩⟩
    case round =>
      clear F0
      obtain ⟨i, f, hi, rfl, HF, HV⟩ := hrel
      have G := Hd.mk (H.out.below (HF.out.below))
      by_cases hlt : i < N
      · have hlt' : (i : Int) < (N : Int) := by omega
        have i0 : (0 : Int) ≤ i := by omega
        have l1 := dg_lt x i
        have c1 := (G.out.cell b' o' none rfl i (by rw [HN.out]; omega)).2
        have row := HF.out.row.cell (show i + q < N + q + 1 by omega)
        have frz := HF.out.row.frozen (i + q)
        have frz2 := HF.out.row.frozen (i + q + 1)
        have row2 := HF.out.row.cell (show i + q + 1 < N + q + 1 by omega)
        obtain ⟨g1, g2⟩ := up_low x i q r hr3 f (N + q + 1) HF.out.dig (by omega) HV.out
        have g3 := g2 (by omega)
        clear g2
        rw [g3] at row2
        have G3 := Hd.mk g3
        obtain ⟨m1, m2, m3⟩ := up_fits (dg x i) r (f (i + q)) hr3 l1 g1
        have MS := fun V1 V2 => up_step x i q r (f (i + q)) (vl (N + q + 1) f) V1 V2 HV.out
        have MH := Hd.mk MS
        have p0 : (dg x i : Int) * 2 ^ r = ((dg x i * 2 ^ r : Nat) : Int) := by rw [Int.natCast_mul, Int.natCast_pow]; rfl
        clear MS g1 g3
        generalize dg x i * 2 ^ r = S at *
        have m1' : f (i + q) + S % 4294967296 < 4294967296 := m1
        have m3' : S / 4294967296 < 4294967296 := m3
        go_wp2_with fail
        have v1 : (f (i + q) : Int) + (S : Int) % 4294967296 = ((f (i + q) + S % BB : Nat) : Int) := rfl
        have v2 : (S : Int) / 4294967296 = ((S / BB : Nat) : Int) := rfl
        rw [v1, v2]
        refine ⟨⟨i + 1, _, by omega, by go_num, ⟨(HF.out.set (i + q) _ m1).set (i + q + 1) _ m3⟩, ⟨?_⟩⟩, by simp [intOf]; omega⟩
        refine MH.out _ _ (vl_upd f (i + q) _ (N + q + 1) (by omega)) ?_
        have := vl_upd (upd f (i + q) (f (i + q) + S % BB)) (i + q + 1) (S / BB) (N + q + 1) (by omega)
        rw [show upd f (i + q) (f (i + q) + S % BB) (i + q + 1) = 0 by unfold upd; rw [if_neg (by omega)]; exact G3.out] at this
        omega
      · obtain rfl : i = N := by omega
        have hz : vl (i + q + 1) f = x * 2 ^ n := by
          rw [HV.out, Nat.mod_eq_of_lt (show x < BB ^ i by have := lt_nd x; rw [HN.out] at this; exact this), HQ.out, BB_pow, Nat.pow_add]
        go_wp2_with fail
        refine (trim_row b (i + q + 1) (i + q + 1) (x * 2 ^ n) f _ (by omega) (Nat.le_refl _) (fun j _ => HF.out.dig j) hz HF.out.row).mono ?_
        have HZ := Hd.mk hz
        clear hz
        rintro e w' ⟨q, rfl, rfl⟩
        go_wp2_with fail
        go_ret
        exact filled_ret (HF.out.drewN q) HZ.out (Nat.le_refl _)

end Go.Proofs.Yteikihidblcljaa

/- The walk of the reference's ShiftDown. -/
namespace Go.Proofs.Yteikihidblcljaa
open Go.RowKit
set_option linter.unusedSimpArgs false
set_option linter.unusedVariables false

/-- Not 0. -/
def nz (x : Nat) : Bool := !(x == 0)
theorem nz_t {x : Nat} (h : x ≠ 0) : nz x = true := by simp [nz, h]
theorem nz_f {x : Nat} (h : x = 0) : nz x = false := by simp [nz, h]
theorem nz_iff {x : Nat} : nz x = true ↔ x ≠ 0 := by simp [nz]

/-- It returns digits and a Bool. -/
def D2Ret (z : Nat) (l : Bool) (w : World) (e : Ending) (w' : World) : Prop := ∃ a c, e = .returned (.tuple #[.slice a (nd z) c, .bool l]) ∧ nd z ≤ c ∧ Dgs w' a z ∧ Below w.heap.size w w' ∧ ∀ b o v, a = some ⟨b, o, v⟩ → w.heap.size ≤ b

theorem dn_dig (x q r i : Nat) (hr : r < 32) : (dg x (i + q) + dg x (i + q + 1) * BB) / 2 ^ r % BB = dg (x / 2 ^ (32 * q + r)) i := by
  have e : BB = 2 ^ r * 2 ^ (32 - r) := by rw [← Nat.pow_add, show r + (32 - r) = 32 by omega]
  have h1 : dg x (i + q) + dg x (i + q + 1) * BB = x / BB ^ (i + q) % (2 ^ r * (2 ^ (32 - r) * BB)) := by
    rw [← Nat.mul_assoc, ← e]
    have := Nat.mod_mul (x := x / BB ^ (i + q)) (a := BB) (b := BB)
    rw [this]
    unfold dg
    rw [Nat.pow_succ, Nat.div_div_eq_div_mul, Nat.mul_comm BB (_ % BB)]
  rw [h1, Nat.mod_mul_right_div_self, Nat.mod_mod_of_dvd _ (Nat.dvd_mul_left _ _)]
  unfold dg
  rw [Nat.div_div_eq_div_mul, Nat.div_div_eq_div_mul]
  congr 2
  rw [Nat.pow_add, Nat.pow_add 2, BB_pow q]
  simp only [Nat.mul_assoc, Nat.mul_comm, Nat.mul_left_comm]

theorem dn_low (x q r : Nat) (hr : r < 32) : x % 2 ^ (32 * q + r) = x % BB ^ q + BB ^ q * (dg x q % 2 ^ r) := by
  rw [Nat.pow_add, ← BB_pow, Nat.mod_mul]
  unfold dg
  rw [Nat.mod_mod_of_dvd _ (by rw [show BB = 2 ^ 32 from rfl]; exact Nat.pow_dvd_pow 2 (by omega))]

theorem dn_lost (x q r : Nat) (hr : r < 32) (h : x % BB ^ q = 0) : nz (x % 2 ^ (32 * q + r)) = nz (dg x q % 2 ^ r) := by
  rw [dn_low x q r hr, h, Nat.zero_add]
  have hb := BB_pos q
  by_cases h0 : dg x q % 2 ^ r = 0
  · rw [h0]; rfl
  · rw [nz_t h0, nz_t (Nat.mul_ne_zero (by omega) h0)]
theorem dn_lost1 (x q r : Nat) (hr : r < 32) (h : x % BB ^ q ≠ 0) : nz (x % 2 ^ (32 * q + r)) = true := by
  rw [dn_low x q r hr]
  generalize BB ^ q * (dg x q % 2 ^ r) = z
  generalize x % BB ^ q = y at *
  exact nz_t (by omega)
theorem lost_step (x i : Nat) (h : x % BB ^ i = 0) : nz (x % BB ^ (i + 1)) = nz (dg x i) := by
  rw [mod_succ, h, Nat.zero_add]
  have hb := BB_pos i
  by_cases h0 : dg x i = 0
  · rw [h0, Nat.zero_mul]
  · rw [nz_t h0, nz_t (Nat.mul_ne_zero h0 (by omega))]
theorem lost_step1 (x i : Nat) (h : x % BB ^ i ≠ 0) : nz (x % BB ^ (i + 1)) = true := by
  rw [mod_succ]
  generalize dg x i * BB ^ i = z
  generalize x % BB ^ i = y at *
  exact nz_t (by omega)
theorem bne_nz (d : Nat) : ((d : Int) != 0) = nz d := by
  by_cases h : d = 0
  · subst h; rfl
  · rw [nz_t h, bne_iff_ne]; omega

theorem Filled.made' (w : World) (k n : Nat) : Filled w ((w.drewN k).alloc (.cells (madeCells #[.int .u64 0] n) 39)) w.heap.size n (fun _ => 0) where
  below := (below_drewN (Below.refl _ _) k).alloc (Nat.le_refl _) _
  own := Nat.le_refl _
  row := (World.rowIs_made (w.drewN k) (.int .u64 0) n 39).congr fun i hi => rfl
  dig := fun j => by decide

theorem Filled.drew {w0 w : World} {b n : Nat} {f : Nat → Nat} (h : Filled w0 w b n f) : Filled w0 w.drew b n f where
  below := h.below.drew
  own := h.own
  row := h.row
  dig := h.dig

theorem ret2_bool {a b : Bool} {v : Value} (h : a = b) : Ending.returned (.tuple #[v, .bool a]) = .returned (.tuple #[v, .bool b]) := by rw [h]

/-- A filled row, trimmed, is handed back beside a Bool. -/
theorem filled_ret2 {w0 w : World} {b n z : Nat} {f : Nat → Nat} {l l' : Bool} (h : Filled w0 w b n f) (hz : vl n f = z) {cp : Nat} (hcp : n ≤ cp) (hl : l = l') : D2Ret z l' w0 (.returned (.tuple #[.slice (some ⟨b, 0, none⟩) (nd z) cp, .bool l])) w := by
  subst hl
  obtain ⟨a, c, h1, h2, h3, h4, h5⟩ := filled_ret h hz hcp
  cases h1
  exact ⟨_, _, rfl, h2, h3, h4, h5⟩

set_option maxHeartbeats 4000000 in
set_option maxRecDepth 100000 in
theorem shiftDown_any (a : Option Addr) (x c n : Nat) (w : World) (h : Dgs w a x) (hs : nd x ≤ 536870912) (hn : n ≤ 536870912) :
    Calls Try.prog 147 #[.slice a (nd x) c, .int .i64 n] w (D2Ret (x / 2 ^ n) (nz (x % 2 ^ n)) w) := by
  by_cases hbig : 32 * nd x ≤ n
  · obtain ⟨N, hN⟩ : ∃ N, nd x = N := ⟨_, rfl⟩
    have hx : x < 2 ^ n := Nat.lt_of_lt_of_le (lt_nd x) (by rw [BB_pow]; exact Nat.pow_le_pow_right (by decide) hbig)
    rw [hN] at hs hbig ⊢
    have d0 : (32 : Int) * N ≤ n := by omega
    have hs1 : (32 : Int) * N ≤ 17179869184 := by omega
    have HR : Hd (D2Ret (x / 2 ^ n) (nz (x % 2 ^ n)) w (.returned (.tuple #[.slice none 0 0, .bool (decide (0 < N))])) w) := ⟨by
      rw [Nat.div_eq_of_lt hx, Nat.mod_eq_of_lt hx]
      refine ⟨none, 0, ?_, Nat.zero_le _, Dgs.zero _, Below.refl _ _, fun _ _ _ e => by cases e⟩
      have : decide (0 < N) = nz x := by
        by_cases h0 : x = 0
        · subst h0; rw [← hN]; rfl
        · rw [nz_t h0]; have := nd_pos h0; simp; omega
      rw [this]; rfl⟩
    clear h hn hx hbig hN
    go_enter Try.func147, Try.ntmps147
    go_wp2
    go_ret2
    exact HR.out
  · obtain ⟨N, hN⟩ : ∃ N, nd x = N := ⟨_, rfl⟩
    obtain ⟨q, hq⟩ : ∃ q, n / 32 = q := ⟨_, rfl⟩
    obtain ⟨r, hr⟩ : ∃ r, n % 32 = r := ⟨_, rfl⟩
    have q1 : Int.tdiv (n : Int) 32 = q := by rw [Int.tdiv_eq_ediv_of_nonneg (by omega)]; omega
    have r1 : Int.tmod (n : Int) 32 = r := by rw [Int.tmod_eq_emod_of_nonneg (by omega)]; omega
    have q2 : (n : Int) / 32 = q := by omega
    have r2 : (n : Int) % 32 = r := by omega
    have hr3 : r < 32 := by omega
    have hq3 : q ≤ 536870912 := by omega
    have r0 : (0 : Int) ≤ r := by omega
    have q0 : (0 : Int) ≤ q := by omega
    rw [hN] at hs hbig ⊢
    have hqN : q < N := by omega
    have hqN' : (q : Int) < N := by omega
    have d0 : (n : Int) < 32 * (N : Int) := by omega
    have hs1 : (32 : Int) * N ≤ 17179869184 := by omega
    obtain ⟨b', o', rfl⟩ := h.some (by omega)
    have H := Hd.mk h
    have HN := Hd.mk hN
    have HQ := Hd.mk (show n = 32 * q + r by omega)
    have hmk : ∀ w, (Instr.makeSlice 33 (.int .i64 ((N : Int) - q)) (.int .i64 ((N : Int) - q))).run Try.prog w = .ok (.slice (some ⟨w.heap.size, 0, none⟩) (N - q) (N - q)) (w.alloc (.cells (madeCells #[.int .u64 0] (N - q)) 39)) := fun w => by
      rw [show (N : Int) - q = ((N - q : Nat) : Int) by omega]; exact make_u64 (N - q) (by omega) w
    clear h hN hq hr hbig
    go_enter Try.func147, Try.ntmps147
    go_wp2_with fail
    go_loop [6, 7] (fun lv iv => ∃ (i : Nat), i ≤ q ∧ iv = .int .i64 i ∧ lv = .bool (nz (x % BB ^ i))) (fun _ iv => q - (intOf iv).toNat)
    case atStart => exact ⟨0, Nat.zero_le _, rfl, by rw [nz_f (by simp [Nat.mod_one])]⟩
    case round =>
      obtain ⟨i, hi, rfl, rfl⟩ := hrel
      by_cases hlt : i < q
      · have hlt' : (i : Int) < (q : Int) := by omega
        have hlt2 : (i : Int) < (N : Int) := by omega
        have i0 : (0 : Int) ≤ i := by omega
        have c1 := (H.out.cell b' o' none rfl i (by rw [HN.out]; omega)).2
        by_cases hl : x % BB ^ i = 0
        · have E := Hd.mk (lost_step x i hl)
          rw [nz_f hl]
          clear hl
          go_wp2_with fail
          rw [bne_nz]
          refine ⟨⟨i + 1, by omega, by go_num, by rw [E.out]⟩, by simp [intOf]; omega⟩
        · have E := Hd.mk (lost_step1 x i hl)
          rw [nz_t hl]
          clear hl
          go_wp2_with fail
          refine ⟨⟨i + 1, by omega, by go_num, by rw [E.out]⟩, by simp [intOf]; omega⟩
      · obtain rfl : i = q := by omega
        have c1 := (H.out.cell b' o' none rfl i (by rw [HN.out]; omega)).2
        have p0 : (2 : Int) ^ r = ((2 ^ r : Nat) : Int) := by rw [Int.natCast_pow]; rfl
        have hS : 2 ^ r ≤ 2 ^ 31 := Nat.pow_le_pow_right (by decide) (by omega)
        have hS0 : 0 < 2 ^ r := Nat.pow_pos (by decide)
        have EL : Hd (x % BB ^ i = 0 → nz (x % 2 ^ n) = nz (dg x i % 2 ^ r)) := ⟨fun h => by rw [HQ.out]; exact dn_lost x i r hr3 h⟩
        have EL1 : Hd (x % BB ^ i ≠ 0 → nz (x % 2 ^ n) = true) := ⟨fun h => by rw [HQ.out]; exact dn_lost1 x i r hr3 h⟩
        have ED : Hd (∀ j, (dg x (j + i) + dg x (j + i + 1) * BB) / 2 ^ r % BB = dg (x / 2 ^ n) j) := ⟨fun j => by rw [HQ.out]; exact dn_dig x i r j hr3⟩
        generalize 2 ^ r = S at *
        have l1 := dg_lt x i
        have hS' : S ≤ 2147483648 := hS
        have tm : Int.tmod (dg x i : Int) S = ((dg x i % S : Nat) : Int) := by rw [Int.tmod_eq_emod_of_nonneg (by omega)]; rfl
        have R0 := Hd.mk fun k => Filled.made' w k (N - i)
        have HZ : Hd (∀ f : Nat → Nat, (∀ j, j < N - i → f j = dg (x / 2 ^ n) j) → vl (N - i) f = x / 2 ^ n) := ⟨fun f hf => by
          rw [vl_congr hf, vl_dg, Nat.mod_eq_of_lt]
          have h1 : x < BB ^ N := by have := lt_nd x; rw [HN.out] at this; exact this
          rw [HQ.out, Nat.pow_add, ← BB_pow]
          rw [Nat.div_lt_iff_lt_mul (Nat.mul_pos (BB_pos _) (Nat.pow_pos (by decide))), ← Nat.mul_assoc, ← Nat.pow_add, show N - i + i = N by omega]
          exact Nat.lt_of_lt_of_le h1 (Nat.le_mul_of_pos_right _ (Nat.pow_pos (by decide)))⟩
        rcases Decidable.em (x % BB ^ i = 0) with hl | hl
        have E : Hd (((dg x i : Int) % S != 0) = nz (x % 2 ^ n)) := ⟨by rw [show ((dg x i : Int) % S) = ((dg x i % S : Nat) : Int) from rfl, bne_nz, EL.out hl]⟩
        rw [nz_f hl]
        clear hl hS EL EL1
        go_wp2_with fail
        go_quiet (fail)
        rotate_left
        have E : Hd (true = nz (x % 2 ^ n)) := ⟨(EL1.out hl).symm⟩
        rw [nz_t hl]
        clear hl hS EL EL1
        go_wp2_with fail
        go_quiet (fail)
        all_goals
          go_wp2_with fail
          have F0 := Hd.mk (R0.out nq)
          generalize ((w.drewN nq).alloc (.cells (madeCells #[.int .u64 0] (N - i)) 39)) = w1 at *
          generalize hb : w.heap.size = b at *
          have HB := Hd.mk hb
          clear hb hmk R0
          go_loopw [9] (fun jv wr => ∃ (j : Nat) (f : Nat → Nat), j ≤ N - i ∧ jv = .int .i64 j ∧ Hd (Filled w wr b (N - i) f) ∧ Hd (∀ k, k < j → f k = dg (x / 2 ^ n) k)) (fun jv _ => N - i - (intOf jv).toNat)
          case atStart => exact ⟨0, _, Nat.zero_le _, rfl, F0, ⟨fun k hk => by omega⟩⟩
          case round =>
            clear F0
            obtain ⟨j, f, hj, rfl, HF, HD⟩ := hrel
            have G := Hd.mk (H.out.below (HF.out.below))
            by_cases hlt : j < N - i
            · have hlt' : (j : Int) < (N : Int) - i := by omega
              have hlt2 : (j : Int) + i < (N : Int) := by omega
              have j0 : (0 : Int) ≤ j := by omega
              have l1 := dg_lt x (j + i)
              have l2 := dg_lt x (j + i + 1)
              have c2 := (G.out.cell b' o' none rfl (j + i) (by rw [HN.out]; omega)).2
              have row := HF.out.row.cell hlt
              have frz := HF.out.row.frozen j
              have DC : ∀ w, Dgs w (some ⟨b', o', none⟩) x → Calls Try.prog 130 #[.slice (some ⟨b', o', none⟩) N c, .int .i64 ((j : Int) + i + 1)] w fun e w' => e = .returned (.int .u64 (dg x (j + i + 1))) ∧ w' = w := fun w h => by
                have := (digit_any (some ⟨b', o', none⟩) x c (j + i + 1) w h (by rw [HN.out]; omega)).mono fun e w' h => (⟨h.1, h.2.symm⟩ : e = _ ∧ w' = w)
                rw [HN.out] at this
                exact this
              have HDC := Hd.mk DC
              clear DC
              go_wp2_with fail
              refine wp_region_still_tail 23 (by kernel_rfl) (by kernel_rfl) ?_
              simp only [List.take_succ_cons, List.take_zero, List.drop_succ_cons, List.drop_zero]
              change wpStill _ _ wr.drew _ _ _
              have GD : Hd (Dgs wr.drew (some ⟨b', o', none⟩) x) := ⟨G.out.keep fun _ _ _ h => h⟩
              have w1 : IntKind.i64.wrap (i : Int) = i := by rw [IntKind.wrap_i64]; omega
              have w2 : IntKind.i64.wrap ((j : Int) + i) = j + i := by rw [IntKind.wrap_i64]; omega
              have w3 : IntKind.i64.wrap ((j : Int) + i + 1) = j + i + 1 := by rw [IntKind.wrap_i64]; omega
              have w4 : ((j : Int) + i).toNat = j + i := by omega
              have w5 : (0 : Int) ≤ (j : Int) + i := by omega
              have w6 : IntKind.u64.wrap ((dg x (j + i + 1) : Int) * 4294967296) = (dg x (j + i + 1) : Int) * 4294967296 := by rw [IntKind.wrap_u64]; omega
              have w7 : IntKind.u64.wrap ((dg x (j + i) : Int) + (dg x (j + i + 1) : Int) * 4294967296) = (dg x (j + i) : Int) + (dg x (j + i + 1) : Int) * 4294967296 := by rw [IntKind.wrap_u64]; omega
              iterate 15 still_step
              still_call (HDC.out wr.drew GD.out)
              iterate 7 still_step
              refine wpStill_nil ?_
              change wpList _ _ _ _ _ wr.drew
              clear w1 w2 w3 w4 w5 w6 w7
              go_wp2_with fail
              have v1 : (((dg x (j + i) : Int) + (dg x (j + i + 1) : Int) * 4294967296) / S).tmod 4294967296 = ((dg (x / 2 ^ n) j : Nat) : Int) := by
                rw [← ED.out j, Int.tmod_eq_emod_of_nonneg (Int.ediv_nonneg (by omega) (by omega))]
                rfl
              rw [v1]
              refine ⟨⟨j + 1, _, by omega, by go_num, ⟨(HF.out.set j _ (dg_lt _ _)).drew⟩, ⟨fun k hk => ?_⟩⟩, by simp [intOf]; omega⟩
              unfold upd
              by_cases e : k = j
              · rw [if_pos e, e]
              · rw [if_neg e]; exact HD.out k (by omega)
            · obtain rfl : j = N - i := by omega
              have hz := HZ.out f HD.out
              go_wp2_with fail
              refine (trim_row b (N - i) (N - i) (x / 2 ^ n) f _ (by omega) (Nat.le_refl _) (fun j _ => HF.out.dig j) hz HF.out.row).mono ?_
              have HZ' := Hd.mk hz
              clear hz
              rintro e w' ⟨q, rfl, rfl⟩
              go_wp2_with fail
              go_ret2
              exact filled_ret2 (HF.out.drewN q) HZ'.out (Nat.le_refl _) E.out
end Go.Proofs.Yteikihidblcljaa

/- The walk of the reference's DivDigits. -/
namespace Go.Proofs.Yteikihidblcljaa
open Go.RowKit
set_option linter.unusedSimpArgs false
set_option linter.unusedVariables false

theorem bit_dig (x i : Nat) : dg x (i / 32) / 2 ^ (i % 32) % 2 = x / 2 ^ i % 2 := by
  unfold dg
  have e : BB = 2 ^ (i % 32) * 2 ^ (32 - i % 32) := by rw [← Nat.pow_add, show i % 32 + (32 - i % 32) = 32 by omega]
  rw [e, Nat.mod_mul_right_div_self, Nat.mod_mod_of_dvd _ (by rw [show 32 - i % 32 = (31 - i % 32) + 1 by omega, Nat.pow_succ]; exact Nat.dvd_mul_left _ _), Nat.div_div_eq_div_mul, ← e, BB_pow, ← Nat.pow_add, show 32 * (i / 32) + i % 32 = i by omega]

theorem half_bit (x i : Nat) : x / 2 ^ i = 2 * (x / 2 ^ (i + 1)) + x / 2 ^ i % 2 := by
  rw [Nat.pow_succ, ← Nat.div_div_eq_div_mul]
  omega

/-- One bit of the quotient: r is the rest before. -/
theorem div_bit1 (X y b : Nat) (hy : y ≠ 0) (hb : b ≤ 1) (h : y ≤ X % y * 2 + b) : (2 * X + b) % y = X % y * 2 + b - y ∧ (2 * X + b) / y = 2 * (X / y) + 1 := by
  have e := Nat.div_add_mod X y
  have l : X % y < y := Nat.mod_lt _ (by omega)
  generalize X % y = r at *
  generalize X / y = q at *
  have e2 : 2 * X + b = (r * 2 + b - y) + y * (2 * q + 1) := by
    rw [← e, Nat.mul_add, Nat.mul_add, ← Nat.mul_assoc, Nat.mul_comm 2 y, Nat.mul_assoc]; omega
  rw [e2, Nat.add_mul_mod_self_left, Nat.add_mul_div_left _ _ (by omega), Nat.mod_eq_of_lt (by omega), Nat.div_eq_of_lt (by omega)]
  exact ⟨rfl, by omega⟩
theorem div_bit0 (X y b : Nat) (hy : y ≠ 0) (hb : b ≤ 1) (h : ¬ y ≤ X % y * 2 + b) : (2 * X + b) % y = X % y * 2 + b ∧ (2 * X + b) / y = 2 * (X / y) := by
  have e := Nat.div_add_mod X y
  have l : X % y < y := Nat.mod_lt _ (by omega)
  generalize X % y = r at *
  generalize X / y = q at *
  have e2 : 2 * X + b = (r * 2 + b) + y * (2 * q) := by
    rw [← e, Nat.mul_add, ← Nat.mul_assoc, Nat.mul_comm 2 y, Nat.mul_assoc]; omega
  rw [e2, Nat.add_mul_mod_self_left, Nat.add_mul_div_left _ _ (by omega), Nat.mod_eq_of_lt (by omega), Nat.div_eq_of_lt (by omega)]
  exact ⟨rfl, by omega⟩

/-- A bit goes into a row that has none at or below it. -/
theorem row_bit (n i Q : Nat) (f : Nat → Nat) (hf : ∀ j, f j < BB) (hi : i / 32 < n) (hv : vl n f = Q * 2 ^ (i + 1)) :
    f (i / 32) + 2 ^ (i % 32) < 4294967296 ∧ vl n (upd f (i / 32) (f (i / 32) + 2 ^ (i % 32))) = (2 * Q + 1) * 2 ^ i := by
  constructor
  · have h1 := vl_dig (fun j _ => hf j) (i / 32) hi
    rw [hv] at h1
    have e : Q * 2 ^ (i + 1) / BB ^ (i / 32) = Q * 2 ^ (i % 32 + 1) := by
      have : (2:Nat) ^ (i + 1) = 2 ^ (i % 32 + 1) * BB ^ (i / 32) := by rw [BB_pow, ← Nat.pow_add]; congr 1; omega
      rw [this, ← Nat.mul_assoc, Nat.mul_div_cancel _ (BB_pos _)]
    unfold dg at h1
    have e2 : BB = 2 ^ (i % 32 + 1) * 2 ^ (31 - i % 32) := by rw [← Nat.pow_add, show i % 32 + 1 + (31 - i % 32) = 32 by omega]
    rw [e, e2, Nat.mul_comm Q, Nat.mul_mod_mul_left] at h1
    have h2 : Q % 2 ^ (31 - i % 32) + 1 ≤ 2 ^ (31 - i % 32) := Nat.mod_lt _ (Nat.pow_pos (by decide))
    have h3 := Nat.mul_le_mul_left (2 ^ (i % 32 + 1)) h2
    rw [← e2, Nat.mul_add, ← h1, show BB = 4294967296 from rfl, Nat.pow_succ] at h3
    have : 0 < 2 ^ (i % 32) := Nat.pow_pos (by decide)
    omega
  · have h1 := vl_upd f (i / 32) (f (i / 32) + 2 ^ (i % 32)) n hi
    have e : 2 ^ (i % 32) * BB ^ (i / 32) = 2 ^ i := by rw [BB_pow, ← Nat.pow_add]; congr 1; omega
    rw [Nat.add_mul, e, hv] at h1
    rw [Nat.add_mul, Nat.one_mul, Nat.mul_comm 2 Q, Nat.mul_assoc, show 2 * 2 ^ i = 2 ^ (i + 1) by rw [Nat.pow_succ]; omega]
    omega

theorem nd_mono {x y : Nat} (h : x ≤ y) : nd x ≤ nd y := nd_le (Nat.lt_of_le_of_lt h (lt_nd y))
theorem nd_double {x y : Nat} (h : x < 2 * y) : nd x ≤ nd y + 1 := by
  refine nd_le ?_
  have := lt_nd y
  rw [Nat.pow_succ, show BB ^ nd y * BB = BB ^ nd y * 4294967296 from rfl]
  omega

theorem cmp_ge {x y : Nat} (h : y ≤ x) : decide ((0 : Int) ≤ cmpN x y) = true := by
  unfold cmpN; split
  · omega
  · split <;> rfl
theorem cmp_lt {x y : Nat} (h : ¬ y ≤ x) : decide ((0 : Int) ≤ cmpN x y) = false := by
  unfold cmpN; rw [if_pos (by omega)]; rfl

/-- It returns two numbers' digits. -/
def D22Ret (z z' : Nat) (w : World) (e : Ending) (w' : World) : Prop := ∃ a c a' c', e = .returned (.tuple #[.slice a (nd z) c, .slice a' (nd z') c']) ∧ nd z ≤ c ∧ nd z' ≤ c' ∧ Dgs w' a z ∧ Dgs w' a' z' ∧ Below w.heap.size w w' ∧ (∀ b o v, a = some ⟨b, o, v⟩ → w.heap.size ≤ b) ∧ (∀ b o v, a' = some ⟨b, o, v⟩ → w.heap.size ≤ b)

theorem dgs_one (w : World) : Dgs (w.alloc (.cells #[.int .u64 1] 39)) (some ⟨w.heap.size, 0, none⟩) 1 :=
  ⟨(fun e => by cases e), fun b o v e i hi => by
    cases e
    have : nd 1 = 1 := by decide
    rw [this] at hi
    obtain rfl : i = 0 := by omega
    exact ⟨rfl, by simp [go_sem]; rfl⟩⟩

theorem Dgs.setOther {w : World} {a : Option Addr} {x b : Nat} (h : Dgs w a x) (hb : ∀ b1 o v, a = Option.some ⟨b1, o, v⟩ → b < b1) (i : Nat) (v : Value) : Dgs (w.setCell ⟨b, i, none⟩ v) a x :=
  ⟨h.nil, fun b1 o v' e j hj => ⟨(h.cell b1 o v' e j hj).1, by
    have h1 := (h.cell b1 o v' e j hj).2
    have h2 := hb b1 o v' e
    have h3 := World.cell?_of_block (w := w) (w' := w.setCell ⟨b, i, none⟩ v) (a := ⟨b1, o + j, none⟩) (Below.heap_setCell _ _ _ _ (by simp; omega))
    rw [h3, h1]⟩⟩

set_option maxHeartbeats 8000000 in
set_option maxRecDepth 100000 in
theorem divDigits_any (a : Option Addr) (x c : Nat) (a' : Option Addr) (y c' : Nat) (w : World) (h : Dgs w a x) (h' : Dgs w a' y) (hs : nd x ≤ 16777216) (hs' : nd y ≤ 16777216) (hy : y ≠ 0) :
    Calls Try.prog 119 #[.slice a (nd x) c, .slice a' (nd y) c'] w (D22Ret (x / y) (x % y) w) := by
  obtain ⟨N, hN⟩ : ∃ N, nd x = N := ⟨_, rfl⟩
  have hmk : ∀ w, (Instr.makeSlice 33 (.int .i64 (N : Int)) (.int .i64 (N : Int))).run Try.prog w = .ok (.slice (some ⟨w.heap.size, 0, none⟩) N N) (w.alloc (.cells (madeCells #[.int .u64 0] N) 39)) := fun w => make_u64 N (by omega) w
  have H := Hd.mk h
  have H' := Hd.mk h'
  have HN := Hd.mk hN
  have HY := Hd.mk hy
  have hbl : bl x ≤ 32 * N := bl_le (by rw [← BB_pow, ← hN]; exact lt_nd x)
  have L := Hd.mk (len_any a x c)
  rw [hN] at hs ⊢
  have LC : ∀ w, Dgs w a x → Calls Try.prog 118 #[.slice a N c] w fun e w' => e = .returned (.int .i64 (bl x)) ∧ w = w' := fun w h => by have := L.out w h (by omega); rw [hN] at this; exact this
  have HLC := Hd.mk LC
  have X0 : Hd (x / 2 ^ bl x = 0) := ⟨Nat.div_eq_of_lt (bl_lt x)⟩
  clear h h' hN L LC hy
  go_enter Try.func119, Try.ntmps119
  go_wp2_with fail
  have F0 := Hd.mk (Filled.made w N)
  generalize (w.alloc (.cells (madeCells #[.int .u64 0] N) 39)) = w1 at *
  generalize hb : w.heap.size = b at *
  have HB := Hd.mk hb
  clear hb hmk
  have G0 := Hd.mk (H.out.below F0.out.below)
  refine (HLC.out _ G0.out).mono ?_; rintro e w' ⟨rfl, rfl⟩
  generalize bl x = l at *
  go_wp2_with fail
  go_loopw [6, 8] (fun rv iv wr => ∃ (m : Nat) (ra : Option Addr) (rc : Nat) (f : Nat → Nat), m ≤ l ∧ iv = .int .i64 ((m : Int) - 1) ∧ rv = .slice ra (nd (x / 2 ^ m % y)) rc ∧ Hd (nd (x / 2 ^ m % y) ≤ rc) ∧ Hd (Filled w wr b N f) ∧ Hd (Dgs wr ra (x / 2 ^ m % y)) ∧ Hd (∀ b1 o v, ra = some ⟨b1, o, v⟩ → b < b1) ∧ Hd (vl N f = x / 2 ^ m / y * 2 ^ m)) (fun _ iv _ => (intOf iv + 1).toNat)
  case atStart =>
    have e0 : nd (x / 2 ^ l % y) = 0 := by rw [X0.out, Nat.zero_mod]; rfl
    refine ⟨l, none, 0, _, Nat.le_refl _, rfl, by rw [e0], ⟨by omega⟩, F0, ⟨by rw [X0.out, Nat.zero_mod]; exact Dgs.zero _⟩, ⟨fun _ _ _ e => by cases e⟩, ⟨by rw [X0.out, Nat.zero_div, Nat.zero_mul, vl_zero]⟩⟩
  case round =>
    clear F0 G0
    obtain ⟨m, ra, rc, f, hm, rfl, rfl, HC, HF, HD, HB2, HV⟩ := hrel
    by_cases h0 : m = 0
    · subst h0
      have hz : vl N f = x / y := by rw [HV.out]; simp
      go_wp2_with fail
      refine (trim_row b N N (x / y) f _ (by omega) (Nat.le_refl _) (fun j _ => HF.out.dig j) hz HF.out.row).mono ?_
      have HZ := Hd.mk hz
      clear hz
      rintro e w' ⟨q, rfl, rfl⟩
      go_wp2_with fail
      go_ret2
      obtain ⟨a6, c6, h1, h2, h3, h4, h5⟩ := filled_ret (HF.out.drewN q) HZ.out (Nat.le_refl _)
      cases h1
      have e1 : x / 2 ^ 0 % y = x % y := by simp
      exact ⟨_, _, ra, rc, rfl, h2, by rw [← e1]; exact HC.out, h3, by rw [← e1]; exact HD.out.drewN q, h4, h5, fun b1 o v e => by have := HB2.out b1 o v e; have := HB.out; omega⟩
    · obtain ⟨i, rfl⟩ : ∃ i, m = i + 1 := ⟨m - 1, by omega⟩
      clear h0
      have i0 : (0 : Int) ≤ i := by omega
      obtain ⟨q, hq⟩ : ∃ q, i / 32 = q := ⟨_, rfl⟩
      obtain ⟨r, hr⟩ : ∃ r, i % 32 = r := ⟨_, rfl⟩
      have q1 : Int.tdiv (i : Int) 32 = q := by rw [Int.tdiv_eq_ediv_of_nonneg (by omega)]; omega
      have r1 : Int.tmod (i : Int) 32 = r := by rw [Int.tmod_eq_emod_of_nonneg (by omega)]; omega
      have q2 : (i : Int) / 32 = q := by omega
      have r2 : (i : Int) % 32 = r := by omega
      have hr3 : r < 32 := by omega
      have hqN : q < N := by omega
      have hqN' : (q : Int) < N := by omega
      have r0 : (0 : Int) ≤ r := by omega
      have q0 : (0 : Int) ≤ q := by omega
      have QI := Hd.mk hq
      have RI := Hd.mk hr
      obtain ⟨bx, ox, rfl⟩ := H.out.some (by rw [HN.out]; omega)
      clear hq hr
      have e8 : (((i + 1 : Nat) : Int) - 1) = i := by omega
      rw [e8]
      clear e8
      have hR : x / 2 ^ (i + 1) % y < y := Nat.mod_lt _ (by have := HY.out; omega)
      have HX := Hd.mk (half_bit x i)
      have HB1 := Hd.mk (fun b h => div_bit1 (x / 2 ^ (i + 1)) y b HY.out h)
      have HB0 := Hd.mk (fun b h => div_bit0 (x / 2 ^ (i + 1)) y b HY.out h)
      have HRB := Hd.mk (row_bit N i (x / 2 ^ (i + 1) / y) f HF.out.dig (by rw [QI.out]; exact hqN) HV.out)
      have HBD := Hd.mk (bit_dig x i)
      rw [QI.out, RI.out] at HBD HRB
      generalize x / 2 ^ (i + 1) % y = R at *
      have nR : nd R ≤ 16777216 := Nat.le_trans (nd_mono (Nat.le_of_lt hR)) hs'
      have hR2 := Hd.mk hR
      have nR2 : nd (R * 2) ≤ 16777217 := Nat.le_trans (nd_double (y := y) (by omega)) (by omega)
      have nR3 : nd (R * 2 + 1) ≤ 16777217 := Nat.le_trans (nd_double (y := y) (by omega)) (by omega)
      clear hR
      have p0 : (2 : Int) ^ r = ((2 ^ r : Nat) : Int) := by rw [Int.natCast_pow]; rfl
      have hS : 2 ^ r ≤ 2 ^ 31 := Nat.pow_le_pow_right (by decide) (by omega)
      have hS' : 2 ^ r ≤ 2147483648 := hS
      have hS0 : 0 < 2 ^ r := Nat.pow_pos (by decide)
      clear hS
      generalize 2 ^ r = S at *
      have pd : (dg x q : Int) / S = ((dg x q / S : Nat) : Int) := rfl
      generalize dg x q / S = D at *
      have HSU : Hd (∀ w, Dgs w ra R → Calls Try.prog 120 #[.slice ra (nd R) rc, .int .i64 1] w (DRet (R * 2) w)) := ⟨fun w h => by
        have := shiftUp_any ra R rc 1 w h (by omega) (by omega)
        rwa [Nat.pow_one] at this⟩
      go_wp2_with fail
      refine (HSU.out wr HD.out).mono ?_
      rintro e w2 ⟨a2, c2, rfl, hc2, hd2, hb2, hf2⟩
      have G2 := Hd.mk ((H.out.below HF.out.below).below hb2)
      have cx := (G2.out.cell bx ox none rfl q (by rw [HN.out]; omega)).2
      have HC2 := Hd.mk hc2
      have HD2 := Hd.mk hd2
      have HB3 := Hd.mk hb2
      have HF2 := Hd.mk hf2
      clear hc2 hd2 hb2 hf2
      rcases (by omega : D % 2 = 1 ∨ D % 2 = 0) with hbit | hbit
      focus
        have db : ((D : Int) % 2 == 1) = true := by rw [beq_iff_eq]; omega
        have HE : Hd (x / 2 ^ i = 2 * (x / 2 ^ (i + 1)) + 1) := ⟨by rw [HX.out, ← HBD.out, hbit]⟩
        have AD : ∀ w, Dgs w a2 (R * 2) → Dgs w (some ⟨w2.heap.size, 0, none⟩) 1 → Calls Try.prog 106 #[.slice a2 (nd (R * 2)) c2, .slice (some ⟨w2.heap.size, 0, none⟩) 1 1] w (DRet (R * 2 + 1) w) := fun w h1 h2 => by
          have := addDigits_any a2 (R * 2) c2 (some ⟨w2.heap.size, 0, none⟩) 1 1 w h1 h2 (by omega) (by decide)
          rwa [show nd 1 = 1 by decide] at this
        have HAD := Hd.mk AD
        clear AD
        go_wp2_with fail
        have ba : Below w2.heap.size w2 (w2.alloc (.cells #[.int .u64 1] 39)) := (Below.refl _ _).alloc (Nat.le_refl _) _
        refine (HAD.out _ (HD2.out.below ba) (dgs_one w2)).mono ?_
        rintro e w3 ⟨a3, c3, rfl, hc3, hd3, hb3, hf3⟩
        have B3 : Hd (Below wr.heap.size wr w3) := ⟨(HB3.out.trans (ba.mono HB3.out.size)).trans (hb3.mono (by have := HB3.out.size; simp; omega))⟩
        have F3 : Hd (∀ b1 o v, a3 = some ⟨b1, o, v⟩ → wr.heap.size ≤ b1) := ⟨fun b1 o v e => by have := hf3 b1 o v e; have := HB3.out.size; simp at *; omega⟩
        have HD3 := Hd.mk hd3
        have HC3 := Hd.mk hc3
        clear hd3 hb3 hf3 hc3 ba db hbit
        have E1 : Hd (y ≤ R * 2 + 1 → x / 2 ^ i % y = R * 2 + 1 - y ∧ x / 2 ^ i / y = 2 * (x / 2 ^ (i + 1) / y) + 1) := ⟨fun h => by rw [HE.out]; exact HB1.out 1 (by omega) h⟩
        have E0 : Hd (¬ y ≤ R * 2 + 1 → x / 2 ^ i % y = R * 2 + 1 ∧ x / 2 ^ i / y = 2 * (x / 2 ^ (i + 1) / y)) := ⟨fun h => by rw [HE.out]; exact HB0.out 1 (by omega) h⟩
        generalize R * 2 + 1 = s at *
        clear HE HB1 HB0 HAD HSU HX HBD
        go_wp2_with fail
      rotate_left
      focus
        have db : ((D : Int) % 2 == 1) = false := by rw [beq_eq_false_iff_ne]; omega
        have HE : Hd (x / 2 ^ i = 2 * (x / 2 ^ (i + 1)) + 0) := ⟨by rw [HX.out, ← HBD.out, hbit]⟩
        go_wp2_with fail
        clear db hbit
        have nR3 := nR2
        have E1 : Hd (y ≤ R * 2 → x / 2 ^ i % y = R * 2 - y ∧ x / 2 ^ i / y = 2 * (x / 2 ^ (i + 1) / y) + 1) := ⟨fun h => by rw [HE.out]; exact HB1.out 0 (by omega) h⟩
        have E0 : Hd (¬ y ≤ R * 2 → x / 2 ^ i % y = R * 2 ∧ x / 2 ^ i / y = 2 * (x / 2 ^ (i + 1) / y)) := ⟨fun h => by rw [HE.out]; exact HB0.out 0 (by omega) h⟩
        generalize R * 2 = s at *
        clear HE HB1 HB0 HSU HX HBD
        have B3 := HB3
        have F3 := HF2
        have HD3 := HD2
        have HC3 := HC2
        clear HB3 HF2 HD2 HC2
        generalize w2 = w3 at *
        generalize a2 = a3 at *
        generalize c2 = c3 at *
      all_goals
        have G3 := Hd.mk ((H'.out.below HF.out.below).below B3.out)
        refine (cmpDigits_any a3 s c3 a' y c' w3 HD3.out G3.out (by omega) (by omega)).mono ?_
        rintro e w4 ⟨kk, rfl, rfl⟩
        have F4 := Hd.mk ((HF.out.after B3.out).drewN kk)
        have BZ : b < wr.heap.size := HF.out.row.lt
        have HBZ := Hd.mk BZ
        clear BZ
        rcases Decidable.em (y ≤ s) with hge | hge
        focus
          have dc := cmp_ge hge
          have EE := Hd.mk (E1.out hge)
          have HGE := Hd.mk hge
          clear hge
          go_wp2_with fail
          refine (subDigits_any a3 s c3 a' y c' _ (HD3.out.drewN kk) (G3.out.drewN kk) (by omega) (by omega) HGE.out).mono ?_
          rintro e w5 ⟨a5, c5, rfl, hc5, hd5, hb5, hf5⟩
          have F5 := Hd.mk (F4.out.after hb5)
          have row := F5.out.row.cell hqN
          have frz := F5.out.row.frozen q
          have HC5 := Hd.mk hc5
          have HD5 := Hd.mk hd5
          have HF5 := Hd.mk hf5
          have BZ4 : b < (w3.drewN kk).heap.size := F4.out.row.lt
          have HBZ4 := Hd.mk BZ4
          clear hc5 hd5 hb5 hf5 dc BZ4
          have rb := HRB.out.1
          go_wp2_with fail
          have w1 : IntKind.i64.wrap (q : Int) = q := by rw [IntKind.wrap_i64]; omega
          have w2 : IntKind.i64.wrap (r : Int) = r := by rw [IntKind.wrap_i64]; omega
          have w4 : IntKind.u64.wrap (S : Int) = S := by rw [IntKind.wrap_u64]; omega
          have w6 : IntKind.u64.wrap ((f q : Int) + S) = (f q : Int) + S := by rw [IntKind.wrap_u64]; omega
          refine wp_region_still_tail 13 (by kernel_rfl) (by kernel_rfl) ?_
          simp only [List.take_succ_cons, List.take_zero, List.drop_succ_cons, List.drop_zero]
          change wpStill _ _ w5.drew _ _ _
          iterate 13 still_step
          refine wpStill_nil ?_
          change wpList _ _ _ _ _ w5.drew
          clear w1 w2 w4 w6
          go_wp2_with fail
          have v1 : ((f q : Int) + S) = ((f q + S : Nat) : Int) := by omega
          rw [v1]
          refine ⟨⟨i, a5, c5, _, by omega, rfl, by rw [EE.out.1], ⟨by rw [EE.out.1]; exact HC5.out⟩, ⟨(F5.out.set q _ rb).drew⟩, ⟨?_⟩, ⟨fun b1 o v e => by have := HF5.out b1 o v e; have := HBZ4.out; omega⟩, ⟨by rw [EE.out.2]; exact HRB.out.2⟩⟩, by simp [intOf]⟩
          rw [EE.out.1]
          exact (HD5.out.setOther (b := b) (fun b1 o v e => by have := HF5.out b1 o v e; have := HBZ4.out; omega) q _).keep fun _ _ _ h => h
        rotate_left
        focus
          have dc := cmp_lt hge
          have EE := Hd.mk (E0.out hge)
          clear hge
          go_wp2_with fail
          refine ⟨⟨i, a3, c3, f, by omega, rfl, by rw [EE.out.1], ⟨by rw [EE.out.1]; exact HC3.out⟩, F4, ⟨by rw [EE.out.1]; exact HD3.out.drewN kk⟩, ⟨fun b1 o v e => by have := F3.out b1 o v e; have := HBZ.out; omega⟩, ⟨?_⟩⟩, by simp [intOf]⟩
          rw [EE.out.2, HV.out, Nat.pow_succ, Nat.mul_comm (2 ^ i) 2, ← Nat.mul_assoc, Nat.mul_comm _ 2]
end Go.Proofs.Yteikihidblcljaa

/- The walks of the reference's reals: Digits, Zero, low, both, Of. -/
namespace Go.Proofs.Yteikihidblcljaa
open Go.RowKit
set_option linter.unusedSimpArgs false
set_option linter.unusedVariables false

set_option maxHeartbeats 1600000 in
theorem digits_any (n : Nat) (hn : n < 18446744073709551616) (w : World) :
    Calls Try.prog 109 #[.int .u64 n] w (DRet n w) := by
  have h2 : n / BB < BB := by show n / 4294967296 < 4294967296; omega
  have v1 : (n : Int) % 4294967296 = ((n % BB : Nat) : Int) := rfl
  have v2 : (n : Int) / 4294967296 = ((n / BB : Nat) : Int) := rfl
  have h1 : n % BB < BB := Nat.mod_lt _ (by decide)
  have HV : Hd (vl 2 (fun i => if i = 0 then n % BB else n / BB) = n) := ⟨by
    simp only [vl]
    have := Nat.div_add_mod n BB
    rw [if_pos trivial, if_neg (by decide), Nat.pow_zero, Nat.mul_one, Nat.pow_one, Nat.zero_add, Nat.add_comm, Nat.mul_comm]
    exact this⟩
  have H1 := Hd.mk h1
  have H2 := Hd.mk h2
  clear h1 h2 v1 v2
  go_enter Try.func109, Try.ntmps109
  go_wp2_with fail
  have v1 : (n : Int) % 4294967296 = ((n % BB : Nat) : Int) := rfl
  have v2 : (n : Int) / 4294967296 = ((n / BB : Nat) : Int) := rfl
  rw [v1, v2]
  have F : Hd (Filled w (w.alloc (.cells #[.int .u64 ((n % BB : Nat) : Int), .int .u64 ((n / BB : Nat) : Int)] 39)) w.heap.size 2 (fun i => if i = 0 then n % BB else n / BB)) := ⟨{
    below := (Below.refl _ _).alloc (Nat.le_refl _) _
    own := Nat.le_refl _
    row := World.rowIs_alloc w #[.int .u64 ((n % BB : Nat) : Int), .int .u64 ((n / BB : Nat) : Int)] 39 _ (fun i hi => by
      simp at hi
      rcases (by omega : i = 0 ∨ i = 1) with rfl | rfl <;> rfl)
    dig := fun j => by split; exact H1.out; exact H2.out }⟩
  generalize (w.alloc (.cells #[.int .u64 ((n % BB : Nat) : Int), .int .u64 ((n / BB : Nat) : Int)] 39)) = w1 at *
  generalize hb : w.heap.size = b at *
  have HB := Hd.mk hb
  clear hb v1 v2
  refine (trim_row b 2 2 n _ w1 (by omega) (Nat.le_refl _) (fun j _ => F.out.dig j) HV.out F.out.row).mono ?_
  rintro e w' ⟨q, rfl, rfl⟩
  go_wp2_with fail
  go_ret
  exact filled_ret (F.out.drewN q) HV.out (Nat.le_refl _)

theorem zero_any (s : Bool) (a : Option Addr) (d c : Nat) (e : Int) (w : World) (hd : nd d ≤ 1073741824) :
    Calls Try.prog 111 #[.agg #[.bool s, .slice a (nd d) c, .int .i64 e]] w fun en w' => en = .returned (.bool (d == 0)) ∧ Below w.heap.size w w' := by
  have HD : Hd (((nd d : Int) == 0) = (d == 0)) := ⟨by
    rw [Bool.eq_iff_iff, beq_iff_eq, beq_iff_eq]
    have := @nd_eq_zero d
    omega⟩
  go_enter Try.func111, Try.ntmps111
  go_wp2_with fail
  go_ret
  exact ⟨ret_bool HD.out, (Below.refl _ _).alloc (Nat.le_refl _) _⟩

/-- It returns a real. -/
def NRet (s : Bool) (d : Nat) (e : Int) (w : World) (en : Ending) (w' : World) : Prop := ∃ a c, en = .returned (.agg #[.bool s, .slice a (nd d) c, .int .i64 e]) ∧ Dgs w' a d ∧ Below w.heap.size w w'

set_option maxHeartbeats 1600000 in
theorem low_any (s : Bool) (a : Option Addr) (d c : Nat) (e e' : Int) (w : World) (h : Dgs w a d) (hs : nd d ≤ 536870912) (he : d ≠ 0 → e' ≤ e) (he2 : -10000 ≤ e') (he3 : e ≤ 10000) :
    Calls Try.prog 105 #[.agg #[.bool s, .slice a (nd d) c, .int .i64 e], .int .i64 e'] w (DRet (d * 2 ^ (e - e').toNat) w) := by
  have H := Hd.mk h
  clear h
  by_cases h0 : d = 0
  · subst h0
    have ZC : ∀ w, Calls Try.prog 111 #[.agg #[.bool s, .slice a (nd 0) c, .int .i64 e]] w fun en w' => en = .returned (.bool true) ∧ Below w.heap.size w w' := fun w => zero_any s a 0 c e w (by decide)
    have HZ := Hd.mk ZC
    have HR : Hd (∀ w', Below w.heap.size w w' → DRet (0 * 2 ^ (e - e').toNat) w (.returned (.slice none 0 0)) w') := ⟨fun w' hb => by
      rw [Nat.zero_mul]
      exact ⟨none, 0, rfl, Nat.zero_le _, Dgs.zero _, hb, fun _ _ _ e => by cases e⟩⟩
    clear ZC he hs
    generalize nd 0 = N at *
    go_enter Try.func105, Try.ntmps105
    go_wp2_with fail
    refine (HZ.out _).mono ?_; rintro en w' ⟨rfl, hb⟩
    have hk := cellb hb w.heap.size (by simp)
    go_wp2_with fail
    go_ret
    exact HR.out _ (((Below.refl _ _).alloc (Nat.le_refl _) _).trans (hb.mono (by simp)))
  · have he' := he h0
    have ZC : ∀ w, Calls Try.prog 111 #[.agg #[.bool s, .slice a (nd d) c, .int .i64 e]] w fun en w' => en = .returned (.bool false) ∧ Below w.heap.size w w' := fun w => by
      have := zero_any s a d c e w (by omega)
      rwa [show (d == 0) = false by rw [beq_eq_false_iff_ne]; exact h0] at this
    obtain ⟨n, hn⟩ : ∃ n, (e - e').toNat = n := ⟨_, rfl⟩
    have hn2 : e - e' = (n : Int) := by omega
    have UC : ∀ w, Dgs w a d → Calls Try.prog 120 #[.slice a (nd d) c, .int .i64 (e - e')] w (DRet (d * 2 ^ n) w) := fun w h => by
      rw [hn2]; exact shiftUp_any a d c n w h (by omega) (by omega)
    have HZ := Hd.mk ZC
    have HU := Hd.mk UC
    rw [hn]
    clear ZC UC he h0 hn hn2
    go_enter Try.func105, Try.ntmps105
    go_wp2_with fail
    refine (HZ.out _).mono ?_; rintro en w' ⟨rfl, hb⟩
    have hk := cellb hb w.heap.size (by simp)
    have hw : Hd (Below w.heap.size w w') := ⟨((Below.refl _ _).alloc (Nat.le_refl _) _).trans (hb.mono (by simp))⟩
    have hz := hb.size
    simp at hz
    clear hb
    go_wp2_with fail
    refine (HU.out _ (H.out.below hw.out)).mono ?_
    rintro en w2 ⟨a2, c2, rfl, hc2, hd2, hb2, hf2⟩
    have hw2 := hw.out.trans (hb2.mono hw.out.size)
    have D2 := Hd.mk hd2
    have HC2 := Hd.mk hc2
    have HW2 := Hd.mk hw2
    have HF2 := Hd.mk hf2
    clear hd2 hb2 hw2 hc2 hf2
    go_wp2_with fail
    go_ret
    exact ⟨_, _, rfl, HC2.out, D2.out, HW2.out, fun b o v e => by have := HF2.out b o v e; omega⟩

set_option maxHeartbeats 1600000 in
theorem both_any (s : Bool) (a : Option Addr) (d c : Nat) (e : Int) (s' : Bool) (a' : Option Addr) (d' c' : Nat) (e' : Int) (w : World) (hs : nd d ≤ 536870912) (hs' : nd d' ≤ 536870912) :
    Calls Try.prog 104 #[.agg #[.bool s, .slice a (nd d) c, .int .i64 e], .agg #[.bool s', .slice a' (nd d') c', .int .i64 e']] w fun en w' =>
      en = .returned (.int .i64 (if d = 0 then e' else if d' = 0 then e else min e e')) ∧ Below w.heap.size w w' := by
  have HZ : Hd (∀ w, Calls Try.prog 111 #[.agg #[.bool s, .slice a (nd d) c, .int .i64 e]] w fun en w' => en = .returned (.bool (d == 0)) ∧ Below w.heap.size w w') := ⟨fun w => zero_any s a d c e w (by omega)⟩
  have HZ' : Hd (∀ w, Calls Try.prog 111 #[.agg #[.bool s', .slice a' (nd d') c', .int .i64 e']] w fun en w' => en = .returned (.bool (d' == 0)) ∧ Below w.heap.size w w') := ⟨fun w => zero_any s' a' d' c' e' w (by omega)⟩
  by_cases h0 : d = 0
  · rw [show (d == 0) = true by rw [beq_iff_eq]; exact h0] at HZ
    rw [if_pos h0]
    clear h0 HZ'
    go_enter Try.func104, Try.ntmps104
    go_wp2_with fail
    refine (HZ.out _).mono ?_; rintro en w' ⟨rfl, hb⟩
    have hk := cellb hb w.heap.size (by simp; omega)
    have hk2 := cellb hb (w.heap.size + 1) (by simp)
    have hz := hb.size
    simp at hz
    have HB : Hd (Below w.heap.size w w') := ⟨(((Below.refl _ _).alloc (Nat.le_refl _) _).alloc (by simp) _).trans (hb.mono (by simp; omega))⟩
    clear hb
    go_wp2_with fail
    go_ret
    exact ⟨rfl, HB.out⟩
  · rw [show (d == 0) = false by rw [beq_eq_false_iff_ne]; exact h0] at HZ
    rw [if_neg h0]
    clear h0
    by_cases h1 : d' = 0
    · rw [show (d' == 0) = true by rw [beq_iff_eq]; exact h1] at HZ'
      rw [if_pos h1]
      clear h1
      go_enter Try.func104, Try.ntmps104
      go_wp2_with fail
      refine (HZ.out _).mono ?_; rintro en w' ⟨rfl, hb⟩
      have hk := cellb hb w.heap.size (by simp; omega)
      have hk2 := cellb hb (w.heap.size + 1) (by simp)
      have hz := hb.size
      simp at hz
      have HB : Hd (Below w.heap.size w w') := ⟨(((Below.refl _ _).alloc (Nat.le_refl _) _).alloc (by simp) _).trans (hb.mono (by simp; omega))⟩
      clear hb
      go_wp2_with fail
      refine (HZ'.out _).mono ?_; rintro en w2 ⟨rfl, hb⟩
      have hk3 := cellb hb w.heap.size (by omega)
      have hk4 := cellb hb (w.heap.size + 1) (by omega)
      have hz2 := hb.size
      have HB2 : Hd (Below w.heap.size w w2) := ⟨HB.out.trans (hb.mono HB.out.size)⟩
      clear hb
      go_wp2_with fail
      go_ret
      exact ⟨rfl, HB2.out⟩
    · rw [show (d' == 0) = false by rw [beq_eq_false_iff_ne]; exact h1] at HZ'
      rw [if_neg h1]
      clear h1
      go_enter Try.func104, Try.ntmps104
      go_wp2_with fail
      refine (HZ.out _).mono ?_; rintro en w' ⟨rfl, hb⟩
      have hk := cellb hb w.heap.size (by simp; omega)
      have hk2 := cellb hb (w.heap.size + 1) (by simp)
      have hz := hb.size
      simp at hz
      have HB : Hd (Below w.heap.size w w') := ⟨(((Below.refl _ _).alloc (Nat.le_refl _) _).alloc (by simp) _).trans (hb.mono (by simp; omega))⟩
      clear hb
      go_wp2_with fail
      refine (HZ'.out _).mono ?_; rintro en w2 ⟨rfl, hb⟩
      have hk3 := cellb hb w.heap.size (by omega)
      have hk4 := cellb hb (w.heap.size + 1) (by omega)
      have hz2 := hb.size
      have HB2 : Hd (Below w.heap.size w w2) := ⟨HB.out.trans (hb.mono HB.out.size)⟩
      clear hb
      go_wp2_with fail
      go_ret
      exact ⟨rfl, HB2.out⟩

end Go.Proofs.Yteikihidblcljaa

/- The walk of the reference's Of. -/
namespace Go.Proofs.Yteikihidblcljaa
open Go.RowKit
set_option linter.unusedSimpArgs false
set_option linter.unusedVariables false

/-- The whole number and the exponent that a float's bits tell. -/
def mnt (u : Nat) : Nat := if mg u < 4503599627370496 then mg u else 4503599627370496 + mg u % 4503599627370496
def exq (u : Nat) : Int := if mg u < 4503599627370496 then -1074 else -1074 + (mg u / 4503599627370496 - 1 : Nat)

theorem and_mant (u : Nat) (hu : F64 u) : bits .and .u64 (u : Int) 4503599627370495 = ((mg u % 4503599627370496 : Nat) : Int) := by
  have := u64_and_nat u 4503599627370495 hu.out (by decide)
  rw [show ((4503599627370495 : Nat) : Int) = 4503599627370495 from rfl] at this
  rw [this]
  show ((u &&& (2 ^ 52 - 1) : Nat) : Int) = _
  rw [Nat.and_two_pow_sub_one_eq_mod]
  unfold mg
  congr 1
  omega
theorem and_exp (u : Nat) (hu : F64 u) : bits .and .u64 ((u : Int) / 4503599627370496) 2047 = ((mg u / 4503599627370496 : Nat) : Int) := by
  have hu := hu.out
  have := u64_and_nat (u / 4503599627370496) 2047 (by omega) (by decide)
  rw [show ((2047 : Nat) : Int) = 2047 from rfl] at this
  rw [show (u : Int) / 4503599627370496 = ((u / 4503599627370496 : Nat) : Int) from rfl, this]
  show ((u / 4503599627370496 &&& (2 ^ 11 - 1) : Nat) : Int) = _
  rw [Nat.and_two_pow_sub_one_eq_mod]
  unfold mg
  congr 1
  omega
theorem ng_dec (u : Nat) (hu : F64 u) : decide ((9223372036854775808 : Int) ≤ u) = ng u := by
  cases h : ng u
  · exact (pos_bits hu h).2
  · exact (neg_bits hu h).2

set_option maxHeartbeats 1600000 in
theorem of_any (u : Nat) (hu : F64 u) (w : World) :
    Calls Try.prog 61 #[.int .u64 u] w (NRet (ng u && !(mnt u == 0)) (mnt u) (if mnt u = 0 then 0 else exq u) w) := by
  have b1 := and_mant u hu
  have b2 := and_exp u hu
  have ds := ng_dec u hu
  have l1 : mg u % 4503599627370496 < 4503599627370496 := Nat.mod_lt _ (by decide)
  have l2 : mg u / 4503599627370496 < 2048 := by have := mg_lt u; omega
  have HM : Hd (mnt u = if mg u / 4503599627370496 = 0 then mg u % 4503599627370496 else 4503599627370496 + mg u % 4503599627370496) := ⟨by unfold mnt; split <;> split <;> omega⟩
  have HE : Hd (exq u = if mg u / 4503599627370496 = 0 then -1074 else ((mg u / 4503599627370496 : Nat) : Int) - 1075) := ⟨by unfold exq; split <;> split <;> omega⟩
  generalize mg u / 4503599627370496 = E at *
  generalize mg u % 4503599627370496 = M at *
  generalize ng u = s at *
  clear hu
  by_cases h0 : E = 0
  · subst h0
    rw [if_pos rfl] at HM HE
    rw [HM.out, HE.out]
    have d1 : decide ((0 : Int) < (0 : Nat)) = false := by decide
    by_cases hm : M = 0
    · subst hm
      rw [if_pos rfl, show (s && !((0 : Nat) == 0)) = false by simp]
      have d2 : (((0 : Nat) : Int) == 0) = true := by decide
      clear HM HE
      go_enter Try.func61, Try.ntmps61
      go_wp2_with fail
      exact bodyPost_ret (v := .agg #[.bool false, .slice none 0 0, .int .i64 0]) (by simp [results, Try.results61, go_sem]) rfl ⟨none, 0, rfl, Dgs.zero _, by (repeat (refine Below.setCell ?_ (by simp) _)); exact (Below.refl _ _).alloc (Nat.le_refl _) _⟩
    · rw [if_neg hm, show (s && !(M == 0)) = s by simp [hm]]
      have d2 : ((M : Int) == 0) = false := by rw [beq_eq_false_iff_ne]; omega
      clear HM HE hm
      go_enter Try.func61, Try.ntmps61
      go_wp2_with fail
      refine (digits_any M (by omega) _).mono ?_; rintro en w' ⟨a2, c2, rfl, hc2, hd2, hb2, hf2⟩
      have hk := cellb hb2 w.heap.size (by simp)
      have hz := hb2.size
      simp at hz
      have HB : Hd (Below w.heap.size w w') := ⟨((Below.refl _ _).alloc (Nat.le_refl _) _).trans (hb2.mono (by simp))⟩
      have HF : Hd (∀ b o v, a2 = some ⟨b, o, v⟩ → w.heap.size < b) := ⟨fun b o v e => by have := hf2 b o v e; simp at this; omega⟩
      have HD := Hd.mk hd2
      clear hb2 hd2 hc2 hf2
      go_wp2_with fail
      refine bodyPost_ret (v := .agg #[.bool s, .slice a2 (nd M) c2, .int .i64 (-1074)]) (by simp [results, Try.results61, go_sem, hk]) rfl ⟨a2, c2, rfl, ?_, ?_⟩
      · repeat (refine Dgs.setOther ?_ HF.out _ _)
        exact HD.out
      · (repeat (refine Below.setCell ?_ (by simp) _)); exact HB.out
  · rw [if_neg h0] at HM HE
    rw [HM.out, HE.out, if_neg (by omega), show (s && !((4503599627370496 + M) == 0)) = s by simp]
    have d1 : decide (0 < E) = true := by simp; omega
    have d2 : (((M : Int) + 4503599627370496) == 0) = false := by rw [beq_eq_false_iff_ne]; omega
    have HG : Hd (∀ w, Calls Try.prog 109 #[.int .u64 ((M : Int) + 4503599627370496)] w (DRet (4503599627370496 + M) w)) := ⟨fun w => by
      have := digits_any (4503599627370496 + M) (by omega) w
      rwa [show ((4503599627370496 + M : Nat) : Int) = (M : Int) + 4503599627370496 by omega] at this⟩
    clear HM HE h0
    generalize 4503599627370496 + M = K at *
    go_enter Try.func61, Try.ntmps61
    go_wp2_with fail
    refine (HG.out _).mono ?_; rintro en w' ⟨a2, c2, rfl, hc2, hd2, hb2, hf2⟩
    have hk := cellb hb2 w.heap.size (by simp)
    have hz := hb2.size
    simp at hz
    have HB : Hd (Below w.heap.size w w') := ⟨((Below.refl _ _).alloc (Nat.le_refl _) _).trans (hb2.mono (by simp))⟩
    have HF : Hd (∀ b o v, a2 = some ⟨b, o, v⟩ → w.heap.size < b) := ⟨fun b o v e => by have := hf2 b o v e; simp at this; omega⟩
    have HD := Hd.mk hd2
    clear hb2 hd2 hc2 hf2
    go_wp2_with fail
    refine bodyPost_ret (v := .agg #[.bool s, .slice a2 (nd K) c2, .int .i64 ((E : Int) - 1075)]) (by simp [results, Try.results61, go_sem, hk]) rfl ⟨a2, c2, rfl, ?_, ?_⟩
    · repeat (refine Dgs.setOther ?_ HF.out _ _)
      exact HD.out
    · (repeat (refine Below.setCell ?_ (by simp) _)); exact HB.out

end Go.Proofs.Yteikihidblcljaa

/- The walk of the reference's Times. -/
namespace Go.Proofs.Yteikihidblcljaa
open Go.RowKit
set_option linter.unusedSimpArgs false
set_option linter.unusedVariables false

theorem zero_t (s : Bool) (a : Option Addr) (d c : Nat) (e : Int) (hd : nd d ≤ 1073741824) (h : d = 0) (w : World) :
    Calls Try.prog 111 #[.agg #[.bool s, .slice a (nd d) c, .int .i64 e]] w fun en w' => en = .returned (.bool true) ∧ Below w.heap.size w w' := by
  have := zero_any s a d c e w hd
  rwa [show (d == 0) = true by rw [beq_iff_eq]; exact h] at this
theorem zero_f (s : Bool) (a : Option Addr) (d c : Nat) (e : Int) (hd : nd d ≤ 1073741824) (h : d ≠ 0) (w : World) :
    Calls Try.prog 111 #[.agg #[.bool s, .slice a (nd d) c, .int .i64 e]] w fun en w' => en = .returned (.bool false) ∧ Below w.heap.size w w' := by
  have := zero_any s a d c e w hd
  rwa [show (d == 0) = false by rw [beq_eq_false_iff_ne]; exact h] at this

/-- Three boxes are made. -/
theorem below_3 (w : World) (o1 o2 o3 : Obj) : Below w.heap.size w (((w.alloc o1).alloc o2).alloc o3) :=
  (((Below.refl _ _).alloc (Nat.le_refl _) _).alloc (by simp) _).alloc (by simp; omega) _

set_option maxHeartbeats 3200000 in
theorem times_any (s : Bool) (a : Option Addr) (d c : Nat) (e : Int) (s' : Bool) (a' : Option Addr) (d' c' : Nat) (e' : Int) (w : World) (h : Dgs w a d) (h' : Dgs w a' d') (hs : nd d ≤ 536870912) (hs' : nd d' ≤ 536870912) (he : -100000 ≤ e ∧ e ≤ 100000) (he' : -100000 ≤ e' ∧ e' ≤ 100000) :
    Calls Try.prog 66 #[.agg #[.bool s, .slice a (nd d) c, .int .i64 e], .agg #[.bool s', .slice a' (nd d') c', .int .i64 e']] w
      (NRet ((s != s') && !(d * d' == 0)) (d * d') (if d * d' = 0 then 0 else e + e') w) := by
  by_cases h0 : d = 0
  · have HZ := Hd.mk (zero_t s a d c e (by omega) h0)
    rw [h0, Nat.zero_mul, if_pos rfl, show ((s != s') && !(0 == 0)) = false by simp, ← h0]
    have HD0 := Hd.mk h0
    clear h h' he he' h0
    generalize nd d = N at *
    generalize nd d' = N' at *
    go_enter Try.func66, Try.ntmps66
    go_wp2_with fail
    refine (HZ.out _).mono ?_; rintro en w' ⟨rfl, hb⟩
    have hk := cellb hb w.heap.size (by simp; omega)
    have hk2 := cellb hb (w.heap.size + 1) (by simp)
    have hk3 := cellb hb (w.heap.size + 1 + 1) (by simp)
    have hz := hb.size
    simp at hz
    have HB : Hd (Below w.heap.size w w') := ⟨(below_3 w _ _ _).trans (hb.mono (by simp; omega))⟩
    clear hb
    go_wp2_with fail
    exact bodyPost_ret (v := .agg #[.bool false, .slice none 0 0, .int .i64 0]) (by simp [results, Try.results66, go_sem, hk3]) rfl ⟨none, 0, by rw [HD0.out]; rfl, by rw [HD0.out]; exact Dgs.zero _, by (repeat (refine Below.setCell ?_ (by simp; try omega) _)); exact HB.out⟩
  · by_cases h1 : d' = 0
    · have HZ := Hd.mk (zero_f s a d c e (by omega) h0)
      have HZ' := Hd.mk (zero_t s' a' d' c' e' (by omega) h1)
      rw [h1, Nat.mul_zero, if_pos rfl, show ((s != s') && !(0 == 0)) = false by simp, ← h1]
      have HD0 := Hd.mk h1
      clear h h' he he' h0 h1
      generalize nd d = N at *
      generalize nd d' = N' at *
      go_enter Try.func66, Try.ntmps66
      go_wp2_with fail
      refine (HZ.out _).mono ?_; rintro en w' ⟨rfl, hb⟩
      have hk := cellb hb w.heap.size (by simp; omega)
      have hk2 := cellb hb (w.heap.size + 1) (by simp)
      have hk3 := cellb hb (w.heap.size + 1 + 1) (by simp)
      have hz := hb.size
      simp at hz
      have HB : Hd (Below w.heap.size w w') := ⟨(below_3 w _ _ _).trans (hb.mono (by simp; omega))⟩
      clear hb
      go_wp2_with fail
      refine (HZ'.out _).mono ?_; rintro en w2 ⟨rfl, hb⟩
      have hk4 := cellb hb w.heap.size (by omega)
      have hk5 := cellb hb (w.heap.size + 1) (by omega)
      have hk6 := cellb hb (w.heap.size + 1 + 1) (by omega)
      have HB2 : Hd (Below w.heap.size w w2) := ⟨HB.out.trans (hb.mono HB.out.size)⟩
      clear hb
      go_wp2_with fail
      exact bodyPost_ret (v := .agg #[.bool false, .slice none 0 0, .int .i64 0]) (by simp [results, Try.results66, go_sem, hk3, hk6]) rfl ⟨none, 0, by rw [HD0.out]; rfl, by rw [HD0.out]; exact Dgs.zero _, by (repeat (refine Below.setCell ?_ (by simp; try omega) _)); exact HB2.out⟩
    · have HZ := Hd.mk (zero_f s a d c e (by omega) h0)
      have HZ' := Hd.mk (zero_f s' a' d' c' e' (by omega) h1)
      have hm : d * d' ≠ 0 := Nat.mul_ne_zero h0 h1
      rw [if_neg hm, show ((s != s') && !(d * d' == 0)) = (s != s') by rw [show (d * d' == 0) = false by rw [beq_eq_false_iff_ne]; exact hm]; simp]
      have HM : Hd (∀ w, Dgs w a d → Dgs w a' d' → Calls Try.prog 112 #[.slice a (nd d) c, .slice a' (nd d') c'] w (DRet (d * d') w)) := ⟨fun w h h' => mulDigits_any a d c a' d' c' w h h' hs hs'⟩
      have H := Hd.mk h
      have H' := Hd.mk h'
      clear h h' h0 h1 hm hs hs'
      generalize d * d' = K at *
      generalize nd d = N at *
      generalize nd d' = N' at *
      go_enter Try.func66, Try.ntmps66
      go_wp2_with fail
      refine (HZ.out _).mono ?_; rintro en w' ⟨rfl, hb⟩
      have hk := cellb hb w.heap.size (by simp; omega)
      have hk2 := cellb hb (w.heap.size + 1) (by simp)
      have hk3 := cellb hb (w.heap.size + 1 + 1) (by simp)
      have hz := hb.size
      simp at hz
      have HB : Hd (Below w.heap.size w w') := ⟨(below_3 w _ _ _).trans (hb.mono (by simp; omega))⟩
      clear hb
      go_wp2_with fail
      refine (HZ'.out _).mono ?_; rintro en w2 ⟨rfl, hb⟩
      have hk4 := cellb hb w.heap.size (by omega)
      have hk5 := cellb hb (w.heap.size + 1) (by omega)
      have hk6 := cellb hb (w.heap.size + 1 + 1) (by omega)
      have hz2 := hb.size
      have HB2 : Hd (Below w.heap.size w w2) := ⟨HB.out.trans (hb.mono HB.out.size)⟩
      clear hb
      go_wp2_with fail
      have c0 : w2.cell? ⟨w.heap.size, 0, none⟩ = some (.bool s) := by go_simp
      have c1 : w2.cell? ⟨w.heap.size, 1, none⟩ = some (.slice a N c) := by go_simp
      have c2 : w2.cell? ⟨w.heap.size, 2, none⟩ = some (.int .i64 e) := by go_simp
      have c3 : w2.cell? ⟨w.heap.size + 1, 0, none⟩ = some (.bool s') := by go_simp
      have c4 : w2.cell? ⟨w.heap.size + 1, 1, none⟩ = some (.slice a' N' c') := by go_simp
      have c5 : w2.cell? ⟨w.heap.size + 1, 2, none⟩ = some (.int .i64 e') := by go_simp
      have r0 : w2.cell? ⟨w.heap.size + 1 + 1, 0, none⟩ = some (.bool false) := by go_simp
      have r1 : w2.cell? ⟨w.heap.size + 1 + 1, 1, none⟩ = some (.slice none 0 0) := by go_simp
      have r2 : w2.cell? ⟨w.heap.size + 1 + 1, 2, none⟩ = some (.int .i64 0) := by go_simp
      have f0 : ∀ o, w2.frozen? ⟨w.heap.size + 1 + 1, o, none⟩ = false := fun o => by go_simp
      clear hk hk2 hk3 hk4 hk5 hk6
      have BW : w.heap.size + 1 + 1 + 1 ≤ w2.heap.size := by omega
      have HBW := Hd.mk BW
      clear BW hz hz2
      have G := Hd.mk (H.out.below HB2.out)
      have G' := Hd.mk (H'.out.below HB2.out)
      have GD : Hd (Dgs w2.drew a d) := ⟨G.out.keep fun _ _ _ h => h⟩
      have GD' : Hd (Dgs w2.drew a' d') := ⟨G'.out.keep fun _ _ _ h => h⟩
      have hw : ((s != s') = !(s == s')) := rfl
      have we : IntKind.i64.wrap (e + e') = e + e' := by rw [IntKind.wrap_i64]; omega
      go_region_held3 (fun w' => w'.cell? ⟨w.heap.size, 0, none⟩ = some (.bool s) ∧ w'.cell? ⟨w.heap.size, 1, none⟩ = some (.slice a N c) ∧ w'.cell? ⟨w.heap.size, 2, none⟩ = some (.int .i64 e) ∧ w'.cell? ⟨w.heap.size + 1, 0, none⟩ = some (.bool s') ∧ w'.cell? ⟨w.heap.size + 1, 1, none⟩ = some (.slice a' N' c') ∧ w'.cell? ⟨w.heap.size + 1, 2, none⟩ = some (.int .i64 e')) (first | exact ⟨c0, c1, c2, c3, c4, c5⟩ | exact ⟨d0, d1, d2, d3, d4, d5⟩ | (refine ⟨?_, ?_, ?_, ?_, ?_, ?_⟩ <;> go_simp)) (first | (
        go_at_call 112
        refine (HM.out _ GD.out GD'.out).mono ?_
        rintro en w3 ⟨a3, c3', rfl, hc3, hd3, hb3, hf3⟩
        have HBW3 := HBW.out
        have k0 := cellb hb3 w.heap.size (by show w.heap.size < w2.heap.size; omega)
        have k1 := cellb hb3 (w.heap.size + 1) (by show w.heap.size + 1 < w2.heap.size; omega)
        have k2 := cellb hb3 (w.heap.size + 1 + 1) (by show w.heap.size + 1 + 1 < w2.heap.size; omega)
        have d0 := (k0.1 _).trans c0
        have d1 := (k0.1 _).trans c1
        have d2 := (k0.1 _).trans c2
        have d3 := (k1.1 _).trans c3
        have d4 := (k1.1 _).trans c4
        have d5 := (k1.1 _).trans c5
        have q0 : w3.cell? ⟨w.heap.size + 1 + 1, 0, none⟩ = some (.bool false) := (k2.1 _).trans r0
        have q1 : w3.cell? ⟨w.heap.size + 1 + 1, 1, none⟩ = some (.slice none 0 0) := (k2.1 _).trans r1
        have q2 : w3.cell? ⟨w.heap.size + 1 + 1, 2, none⟩ = some (.int .i64 0) := (k2.1 _).trans r2
        have g0 : ∀ o, w3.frozen? ⟨w.heap.size + 1 + 1, o, none⟩ = false := fun o => (k2.2 o).trans (f0 o)
        have HD3 := Hd.mk hd3
        have HB3 : Hd (Below w.heap.size w w3) := ⟨HB2.out.drew.trans (hb3.mono HB2.out.size)⟩
        have HF3 : Hd (∀ b o v, a3 = some ⟨b, o, v⟩ → w.heap.size + 1 + 1 < b) := ⟨fun b o v e => by have h1 := hf3 b o v e; have h2 : w2.heap.size ≤ b := h1; omega⟩
        clear k0 k1 k2 hd3 hb3 hf3 hc3 HBW3))
      go_wp2_with fail
      refine bodyPost_ret (v := .agg #[.bool (!(s == s')), .slice a3 (nd K) c3', .int .i64 (e + e')]) (by simp [results, Try.results66, go_sem, q0, q1, q2]) rfl ⟨a3, c3', rfl, ?_, ?_⟩
      · repeat (refine Dgs.setOther ?_ HF3.out _ _)
        exact HD3.out
      · repeat (refine Below.setCell ?_ (by show w.heap.size ≤ w.heap.size + 1 + 1; omega) _)
        exact HB3.out

end Go.Proofs.Yteikihidblcljaa

/- The walk of the reference's Plus. -/
namespace Go.Proofs.Yteikihidblcljaa
open Go.RowKit
set_option linter.unusedSimpArgs false
set_option linter.unusedVariables false

/-- The exponent of a sum, the digits to it, the sum. -/
def plE (d : Nat) (e : Int) (d' : Nat) (e' : Int) : Int := if d = 0 then e' else if d' = 0 then e else min e e'
def lowN (d : Nat) (e E : Int) : Nat := d * 2 ^ (e - E).toNat
def sumS (s : Bool) (A : Nat) (s' : Bool) (B : Nat) : Bool :=
  if s = s' ∨ A = 0 ∨ B = 0 then (if A = 0 then s' else s) && !(A + B == 0)
  else if A = B then false else if B < A then s else s'
def sumD (s : Bool) (A : Nat) (s' : Bool) (B : Nat) : Nat :=
  if s = s' ∨ A = 0 ∨ B = 0 then A + B else if A = B then 0 else if B < A then A - B else B - A
def sumE (s : Bool) (A : Nat) (s' : Bool) (B : Nat) (E : Int) : Int :=
  if s = s' ∨ A = 0 ∨ B = 0 then E else if A = B then 0 else E

theorem nd_shift (d k n : Nat) (h : nd d + k / 32 + 1 ≤ n) : nd (d * 2 ^ k) ≤ n := by
  refine nd_le ?_
  have h1 := lt_nd d
  have h2 : 2 ^ k ≤ BB ^ (k / 32 + 1) := by rw [BB_pow]; exact Nat.pow_le_pow_right (by decide) (by omega)
  calc d * 2 ^ k < BB ^ nd d * 2 ^ k := Nat.mul_lt_mul_of_pos_right h1 (Nat.pow_pos (by decide))
    _ ≤ BB ^ nd d * BB ^ (k / 32 + 1) := Nat.mul_le_mul_left _ h2
    _ = BB ^ (nd d + k / 32 + 1) := by rw [← Nat.pow_add]; rfl
    _ ≤ BB ^ n := Nat.pow_le_pow_right (by decide) h

/-- Two boxes with reals, and one for the answer. -/
structure PC (w : World) (b : Nat) (s : Bool) (a : Option Addr) (N c : Nat) (e : Int) (s' : Bool) (a' : Option Addr) (N' c' : Nat) (e' : Int) : Prop where
  c0 : w.cell? ⟨b, 0, none⟩ = some (.bool s)
  c1 : w.cell? ⟨b, 1, none⟩ = some (.slice a N c)
  c2 : w.cell? ⟨b, 2, none⟩ = some (.int .i64 e)
  c3 : w.cell? ⟨b + 1, 0, none⟩ = some (.bool s')
  c4 : w.cell? ⟨b + 1, 1, none⟩ = some (.slice a' N' c')
  c5 : w.cell? ⟨b + 1, 2, none⟩ = some (.int .i64 e')
  r0 : w.cell? ⟨b + 1 + 1, 0, none⟩ = some (.bool false)
  r1 : w.cell? ⟨b + 1 + 1, 1, none⟩ = some (.slice none 0 0)
  r2 : w.cell? ⟨b + 1 + 1, 2, none⟩ = some (.int .i64 0)
  f0 : ∀ o, w.frozen? ⟨b + 1 + 1, o, none⟩ = false
  sz : b + 1 + 1 < w.heap.size

theorem PC.below {w w' : World} {b : Nat} {s : Bool} {a : Option Addr} {N c : Nat} {e : Int} {s' : Bool} {a' : Option Addr} {N' c' : Nat} {e' : Int} (h : PC w b s a N c e s' a' N' c' e') (hb : Below w.heap.size w w') : PC w' b s a N c e s' a' N' c' e' := by
  have hs := h.sz
  have k0 := cellb hb b (by omega)
  have k1 := cellb hb (b + 1) (by omega)
  have k2 := cellb hb (b + 1 + 1) (by omega)
  exact ⟨(k0.1 _).trans h.c0, (k0.1 _).trans h.c1, (k0.1 _).trans h.c2, (k1.1 _).trans h.c3, (k1.1 _).trans h.c4, (k1.1 _).trans h.c5, (k2.1 _).trans h.r0, (k2.1 _).trans h.r1, (k2.1 _).trans h.r2, fun o => (k2.2 o).trans (h.f0 o), Nat.lt_of_lt_of_le h.sz hb.size⟩




set_option maxHeartbeats 16000000 in
set_option maxRecDepth 100000 in
theorem plus_1 (s : Bool) (a : Option Addr) (N c : Nat) (e : Int) (s' : Bool) (a' : Option Addr) (N' c' : Nat) (e' : Int) (w : World) (X Y A B : Nat) (E : Int) (g : Bool) (H : Hd (Dgs w a X)) (H' : Hd (Dgs w a' Y))
    (HBo : Hd (∀ w, Calls Try.prog 104 #[.agg #[.bool s, .slice a N c, .int .i64 e], .agg #[.bool s', .slice a' N' c', .int .i64 e']] w fun en w' => en = .returned (.int .i64 E) ∧ Below w.heap.size w w'))
    (HLo : Hd (∀ w, Dgs w a X → Calls Try.prog 105 #[.agg #[.bool s, .slice a N c, .int .i64 e], .int .i64 E] w (DRet A w)))
    (HLo' : Hd (∀ w, Dgs w a' Y → Calls Try.prog 105 #[.agg #[.bool s', .slice a' N' c', .int .i64 e'], .int .i64 E] w (DRet B w)))
    (hA : nd A ≤ 100000) (hB : nd B ≤ 100000) (hP : s = s' ∨ A = 0 ∨ B = 0) (hg : ((if A = 0 then s' else s) && !(A + B == 0)) = g) :
    Calls Try.prog 60 #[.agg #[.bool s, .slice a N c, .int .i64 e], .agg #[.bool s', .slice a' N' c', .int .i64 e']] w
      (NRet g (A + B) E w) := by
  have HAD : Hd (∀ w a1 k1 a2 k2, Dgs w a1 A → Dgs w a2 B → Calls Try.prog 106 #[.slice a1 (nd A) k1, .slice a2 (nd B) k2] w (DRet (A + B) w)) := ⟨fun w a1 k1 a2 k2 h h' => addDigits_any a1 A k1 a2 B k2 w h h' (by omega) (by omega)⟩
  unfold DRet at HLo HLo'
  obtain ⟨K, hK⟩ : ∃ K, A + B = K := ⟨_, rfl⟩
  obtain ⟨nA, hnA⟩ : ∃ K, nd A = K := ⟨_, rfl⟩
  obtain ⟨nB, hnB⟩ : ∃ K, nd B = K := ⟨_, rfl⟩
  rw [hnA] at HLo hA
  rw [hnB] at HLo' hB
  rw [hnA, hnB, hK] at HAD
  rw [hK]
  rw [hK] at hg
  by_cases h1 : A = 0
  · rw [if_pos h1] at hg
    obtain rfl : nA = 0 := by rw [← hnA, h1]; rfl
    by_cases h2 : B = 0
    · obtain rfl : nB = 0 := by rw [← hnB, h2]; rfl
      have HG : Hd (false = g) := ⟨by rw [← hg, ← hK, h1, h2]; simp⟩
      clear hP h1 h2 hA hB hnA hnB hK hg
      go_enter Try.func60, Try.ntmps60
      go_wp2_with fail
      refine (HBo.out _).mono ?_; rintro en w1 ⟨rfl, hb⟩
      have P1 : Hd (PC w1 w.heap.size s a N c e s' a' N' c' e') := ⟨PC.below ⟨by go_simp, by go_simp, by go_simp, by go_simp, by go_simp, by go_simp, by go_simp, by go_simp, by go_simp, fun o => by go_simp, by simp⟩ hb⟩
      have B1 : Hd (Below w.heap.size w w1) := ⟨(below_3 w _ _ _).trans (hb.mono (by simp; omega))⟩
      clear hb
      have c0 := (P1.out).c0
      have c1 := (P1.out).c1
      have c2 := (P1.out).c2
      have c3 := (P1.out).c3
      have c4 := (P1.out).c4
      have c5 := (P1.out).c5
      have r0 := (P1.out).r0
      have r1 := (P1.out).r1
      have r2 := (P1.out).r2
      have f0 := (P1.out).f0
      go_wp2_with fail
      clear c0 c1 c2 c3 c4 c5 r0 r1 r2 f0
      refine (HLo.out _ (H.out.below B1.out)).mono ?_; rintro en w2 ⟨a1, k1, rfl, hc, hd, hb, hf⟩
      have P2 := Hd.mk (P1.out.below hb)
      have B2 := Hd.mk (B1.out.trans (hb.mono B1.out.size))
      have D1 := Hd.mk hd
      clear hc hd hb hf
      have c0 := (P2.out).c0
      have c1 := (P2.out).c1
      have c2 := (P2.out).c2
      have c3 := (P2.out).c3
      have c4 := (P2.out).c4
      have c5 := (P2.out).c5
      have r0 := (P2.out).r0
      have r1 := (P2.out).r1
      have r2 := (P2.out).r2
      have f0 := (P2.out).f0
      go_wp2_with fail
      clear c0 c1 c2 c3 c4 c5 r0 r1 r2 f0
      refine (HLo'.out _ (H'.out.below B2.out)).mono ?_; rintro en w3 ⟨a2, k2, rfl, hc, hd, hb, hf⟩
      have P3 := Hd.mk (P2.out.below hb)
      have B3 := Hd.mk (B2.out.trans (hb.mono B2.out.size))
      have D2 := Hd.mk hd
      have D1' := Hd.mk (D1.out.below hb)
      clear hc hd hb hf
      have c0 := (P3.out).c0
      have c1 := (P3.out).c1
      have c2 := (P3.out).c2
      have c3 := (P3.out).c3
      have c4 := (P3.out).c4
      have c5 := (P3.out).c5
      have r0 := (P3.out).r0
      have r1 := (P3.out).r1
      have r2 := (P3.out).r2
      have f0 := (P3.out).f0
      go_wp2_with fail
      clear c0 c1 c2 c3 c4 c5 r0 r1 r2 f0
      all_goals
        refine (HAD.out w3 a1 k1 a2 k2 D1'.out D2.out).mono ?_
        rintro en w4 ⟨a4, k4, rfl, hc, hd, hb, hf⟩
        have HS3 := P3.out.sz
        have P4 := Hd.mk (P3.out.below hb)
        have B4 := Hd.mk (B3.out.trans (hb.mono B3.out.size))
        have D4 := Hd.mk hd
        have F4 : Hd (∀ b o v, a4 = some ⟨b, o, v⟩ → w.heap.size + 1 + 1 < b) := ⟨fun b o v e => by have h1 := hf b o v e; omega⟩
        clear hc hd hb hf HS3
        have c0 := (P4.out).c0
        have c1 := (P4.out).c1
        have c2 := (P4.out).c2
        have c3 := (P4.out).c3
        have c4 := (P4.out).c4
        have c5 := (P4.out).c5
        have r0 := (P4.out).r0
        have r1 := (P4.out).r1
        have r2 := (P4.out).r2
        have f0 := (P4.out).f0
        go_wp2_with fail
        refine bodyPost_ret (v := .agg #[.bool g, .slice a4 (nd K) k4, .int .i64 E]) ?_ rfl ⟨a4, k4, rfl, ?_, ?_⟩
        · rw [← HG.out]
          simp [results, Try.results60, go_sem, r0, r1, r2]
          all_goals (first | assumption | (refine Bool.eq_false_iff.2 ?_; assumption) | (rename_i hx hy; rw [hx]; first | assumption | (refine Bool.eq_false_iff.2 ?_; assumption)))
        · repeat (refine Dgs.setOther ?_ F4.out _ _)
          exact D4.out
        · repeat (refine Below.setCell ?_ (by show w.heap.size ≤ w.heap.size + 1 + 1; omega) _)
          exact B4.out
    · have t2 : ((nB : Int) == 0) = false := by rw [beq_eq_false_iff_ne]; have := nd_pos h2; omega
      have t3 : decide (0 < nB) = true := by have := nd_pos h2; simp; omega
      have t4 : decide ((0 : Int) < nB) = true := by have := nd_pos h2; simp; omega
      have HG : Hd (s' = g) := ⟨by rw [← hg, show (K == 0) = false by rw [beq_eq_false_iff_ne]; omega]; simp⟩
      clear hP h1 h2 hA hnA hnB hK hg
      go_enter Try.func60, Try.ntmps60
      go_wp2_with fail
      refine (HBo.out _).mono ?_; rintro en w1 ⟨rfl, hb⟩
      have P1 : Hd (PC w1 w.heap.size s a N c e s' a' N' c' e') := ⟨PC.below ⟨by go_simp, by go_simp, by go_simp, by go_simp, by go_simp, by go_simp, by go_simp, by go_simp, by go_simp, fun o => by go_simp, by simp⟩ hb⟩
      have B1 : Hd (Below w.heap.size w w1) := ⟨(below_3 w _ _ _).trans (hb.mono (by simp; omega))⟩
      clear hb
      have c0 := (P1.out).c0
      have c1 := (P1.out).c1
      have c2 := (P1.out).c2
      have c3 := (P1.out).c3
      have c4 := (P1.out).c4
      have c5 := (P1.out).c5
      have r0 := (P1.out).r0
      have r1 := (P1.out).r1
      have r2 := (P1.out).r2
      have f0 := (P1.out).f0
      go_wp2_with fail
      clear c0 c1 c2 c3 c4 c5 r0 r1 r2 f0
      refine (HLo.out _ (H.out.below B1.out)).mono ?_; rintro en w2 ⟨a1, k1, rfl, hc, hd, hb, hf⟩
      have P2 := Hd.mk (P1.out.below hb)
      have B2 := Hd.mk (B1.out.trans (hb.mono B1.out.size))
      have D1 := Hd.mk hd
      clear hc hd hb hf
      have c0 := (P2.out).c0
      have c1 := (P2.out).c1
      have c2 := (P2.out).c2
      have c3 := (P2.out).c3
      have c4 := (P2.out).c4
      have c5 := (P2.out).c5
      have r0 := (P2.out).r0
      have r1 := (P2.out).r1
      have r2 := (P2.out).r2
      have f0 := (P2.out).f0
      go_wp2_with fail
      clear c0 c1 c2 c3 c4 c5 r0 r1 r2 f0
      refine (HLo'.out _ (H'.out.below B2.out)).mono ?_; rintro en w3 ⟨a2, k2, rfl, hc, hd, hb, hf⟩
      have P3 := Hd.mk (P2.out.below hb)
      have B3 := Hd.mk (B2.out.trans (hb.mono B2.out.size))
      have D2 := Hd.mk hd
      have D1' := Hd.mk (D1.out.below hb)
      clear hc hd hb hf
      have c0 := (P3.out).c0
      have c1 := (P3.out).c1
      have c2 := (P3.out).c2
      have c3 := (P3.out).c3
      have c4 := (P3.out).c4
      have c5 := (P3.out).c5
      have r0 := (P3.out).r0
      have r1 := (P3.out).r1
      have r2 := (P3.out).r2
      have f0 := (P3.out).f0
      go_wp2_with fail
      clear c0 c1 c2 c3 c4 c5 r0 r1 r2 f0
      all_goals
        refine (HAD.out w3 a1 k1 a2 k2 D1'.out D2.out).mono ?_
        rintro en w4 ⟨a4, k4, rfl, hc, hd, hb, hf⟩
        have HS3 := P3.out.sz
        have P4 := Hd.mk (P3.out.below hb)
        have B4 := Hd.mk (B3.out.trans (hb.mono B3.out.size))
        have D4 := Hd.mk hd
        have F4 : Hd (∀ b o v, a4 = some ⟨b, o, v⟩ → w.heap.size + 1 + 1 < b) := ⟨fun b o v e => by have h1 := hf b o v e; omega⟩
        clear hc hd hb hf HS3
        have c0 := (P4.out).c0
        have c1 := (P4.out).c1
        have c2 := (P4.out).c2
        have c3 := (P4.out).c3
        have c4 := (P4.out).c4
        have c5 := (P4.out).c5
        have r0 := (P4.out).r0
        have r1 := (P4.out).r1
        have r2 := (P4.out).r2
        have f0 := (P4.out).f0
        go_wp2_with fail
        refine bodyPost_ret (v := .agg #[.bool g, .slice a4 (nd K) k4, .int .i64 E]) ?_ rfl ⟨a4, k4, rfl, ?_, ?_⟩
        · rw [← HG.out]
          simp [results, Try.results60, go_sem, r0, r1, r2]
          all_goals (first | assumption | (refine Bool.eq_false_iff.2 ?_; assumption) | (rename_i hx hy; rw [hx]; first | assumption | (refine Bool.eq_false_iff.2 ?_; assumption)))
        · repeat (refine Dgs.setOther ?_ F4.out _ _)
          exact D4.out
        · repeat (refine Below.setCell ?_ (by show w.heap.size ≤ w.heap.size + 1 + 1; omega) _)
          exact B4.out
  · rw [if_neg h1] at hg
    have t2 : ((nA : Int) == 0) = false := by rw [beq_eq_false_iff_ne]; have := nd_pos h1; omega
    have HG : Hd (s = g) := ⟨by rw [← hg, show (K == 0) = false by rw [beq_eq_false_iff_ne]; omega]; simp⟩
    by_cases h2 : B = 0
    · obtain rfl : nB = 0 := by rw [← hnB, h2]; rfl
      have t3 : decide (0 < nA) = true := by have := nd_pos h1; simp; omega
      have t4 : decide ((0 : Int) < nA) = true := by have := nd_pos h1; simp; omega
      clear hP h1 h2 hB hnA hnB hK hg
      go_enter Try.func60, Try.ntmps60
      go_wp2_with fail
      refine (HBo.out _).mono ?_; rintro en w1 ⟨rfl, hb⟩
      have P1 : Hd (PC w1 w.heap.size s a N c e s' a' N' c' e') := ⟨PC.below ⟨by go_simp, by go_simp, by go_simp, by go_simp, by go_simp, by go_simp, by go_simp, by go_simp, by go_simp, fun o => by go_simp, by simp⟩ hb⟩
      have B1 : Hd (Below w.heap.size w w1) := ⟨(below_3 w _ _ _).trans (hb.mono (by simp; omega))⟩
      clear hb
      have c0 := (P1.out).c0
      have c1 := (P1.out).c1
      have c2 := (P1.out).c2
      have c3 := (P1.out).c3
      have c4 := (P1.out).c4
      have c5 := (P1.out).c5
      have r0 := (P1.out).r0
      have r1 := (P1.out).r1
      have r2 := (P1.out).r2
      have f0 := (P1.out).f0
      go_wp2_with fail
      clear c0 c1 c2 c3 c4 c5 r0 r1 r2 f0
      refine (HLo.out _ (H.out.below B1.out)).mono ?_; rintro en w2 ⟨a1, k1, rfl, hc, hd, hb, hf⟩
      have P2 := Hd.mk (P1.out.below hb)
      have B2 := Hd.mk (B1.out.trans (hb.mono B1.out.size))
      have D1 := Hd.mk hd
      clear hc hd hb hf
      have c0 := (P2.out).c0
      have c1 := (P2.out).c1
      have c2 := (P2.out).c2
      have c3 := (P2.out).c3
      have c4 := (P2.out).c4
      have c5 := (P2.out).c5
      have r0 := (P2.out).r0
      have r1 := (P2.out).r1
      have r2 := (P2.out).r2
      have f0 := (P2.out).f0
      go_wp2_with fail
      clear c0 c1 c2 c3 c4 c5 r0 r1 r2 f0
      refine (HLo'.out _ (H'.out.below B2.out)).mono ?_; rintro en w3 ⟨a2, k2, rfl, hc, hd, hb, hf⟩
      have P3 := Hd.mk (P2.out.below hb)
      have B3 := Hd.mk (B2.out.trans (hb.mono B2.out.size))
      have D2 := Hd.mk hd
      have D1' := Hd.mk (D1.out.below hb)
      clear hc hd hb hf
      have c0 := (P3.out).c0
      have c1 := (P3.out).c1
      have c2 := (P3.out).c2
      have c3 := (P3.out).c3
      have c4 := (P3.out).c4
      have c5 := (P3.out).c5
      have r0 := (P3.out).r0
      have r1 := (P3.out).r1
      have r2 := (P3.out).r2
      have f0 := (P3.out).f0
      go_wp2_with fail
      clear c0 c1 c2 c3 c4 c5 r0 r1 r2 f0
      all_goals
        refine (HAD.out w3 a1 k1 a2 k2 D1'.out D2.out).mono ?_
        rintro en w4 ⟨a4, k4, rfl, hc, hd, hb, hf⟩
        have HS3 := P3.out.sz
        have P4 := Hd.mk (P3.out.below hb)
        have B4 := Hd.mk (B3.out.trans (hb.mono B3.out.size))
        have D4 := Hd.mk hd
        have F4 : Hd (∀ b o v, a4 = some ⟨b, o, v⟩ → w.heap.size + 1 + 1 < b) := ⟨fun b o v e => by have h1 := hf b o v e; omega⟩
        clear hc hd hb hf HS3
        have c0 := (P4.out).c0
        have c1 := (P4.out).c1
        have c2 := (P4.out).c2
        have c3 := (P4.out).c3
        have c4 := (P4.out).c4
        have c5 := (P4.out).c5
        have r0 := (P4.out).r0
        have r1 := (P4.out).r1
        have r2 := (P4.out).r2
        have f0 := (P4.out).f0
        go_wp2_with fail
        refine bodyPost_ret (v := .agg #[.bool g, .slice a4 (nd K) k4, .int .i64 E]) ?_ rfl ⟨a4, k4, rfl, ?_, ?_⟩
        · rw [← HG.out]
          simp [results, Try.results60, go_sem, r0, r1, r2]
          all_goals (first | assumption | (refine Bool.eq_false_iff.2 ?_; assumption) | (rename_i hx hy; rw [hx]; first | assumption | (refine Bool.eq_false_iff.2 ?_; assumption)))
        · repeat (refine Dgs.setOther ?_ F4.out _ _)
          exact D4.out
        · repeat (refine Below.setCell ?_ (by show w.heap.size ≤ w.heap.size + 1 + 1; omega) _)
          exact B4.out
    · have t1 : (s == s') = true := by rcases hP with h | h | h <;> first | (rw [beq_iff_eq]; exact h) | exact absurd h h1 | exact absurd h h2
      have t3 : decide (0 < nA + nB) = true := by have := nd_pos h1; simp; omega
      have t4 : decide ((0 : Int) < (nA : Int) + nB) = true := by have := nd_pos h1; simp; omega
      have t5 : ((nB : Int) == 0) = false := by rw [beq_eq_false_iff_ne]; have := nd_pos h2; omega
      clear hP h1 h2 hnA hnB hK hg
      go_enter Try.func60, Try.ntmps60
      go_wp2_with fail
      refine (HBo.out _).mono ?_; rintro en w1 ⟨rfl, hb⟩
      have P1 : Hd (PC w1 w.heap.size s a N c e s' a' N' c' e') := ⟨PC.below ⟨by go_simp, by go_simp, by go_simp, by go_simp, by go_simp, by go_simp, by go_simp, by go_simp, by go_simp, fun o => by go_simp, by simp⟩ hb⟩
      have B1 : Hd (Below w.heap.size w w1) := ⟨(below_3 w _ _ _).trans (hb.mono (by simp; omega))⟩
      clear hb
      have c0 := (P1.out).c0
      have c1 := (P1.out).c1
      have c2 := (P1.out).c2
      have c3 := (P1.out).c3
      have c4 := (P1.out).c4
      have c5 := (P1.out).c5
      have r0 := (P1.out).r0
      have r1 := (P1.out).r1
      have r2 := (P1.out).r2
      have f0 := (P1.out).f0
      go_wp2_with fail
      clear c0 c1 c2 c3 c4 c5 r0 r1 r2 f0
      refine (HLo.out _ (H.out.below B1.out)).mono ?_; rintro en w2 ⟨a1, k1, rfl, hc, hd, hb, hf⟩
      have P2 := Hd.mk (P1.out.below hb)
      have B2 := Hd.mk (B1.out.trans (hb.mono B1.out.size))
      have D1 := Hd.mk hd
      clear hc hd hb hf
      have c0 := (P2.out).c0
      have c1 := (P2.out).c1
      have c2 := (P2.out).c2
      have c3 := (P2.out).c3
      have c4 := (P2.out).c4
      have c5 := (P2.out).c5
      have r0 := (P2.out).r0
      have r1 := (P2.out).r1
      have r2 := (P2.out).r2
      have f0 := (P2.out).f0
      go_wp2_with fail
      clear c0 c1 c2 c3 c4 c5 r0 r1 r2 f0
      refine (HLo'.out _ (H'.out.below B2.out)).mono ?_; rintro en w3 ⟨a2, k2, rfl, hc, hd, hb, hf⟩
      have P3 := Hd.mk (P2.out.below hb)
      have B3 := Hd.mk (B2.out.trans (hb.mono B2.out.size))
      have D2 := Hd.mk hd
      have D1' := Hd.mk (D1.out.below hb)
      clear hc hd hb hf
      have c0 := (P3.out).c0
      have c1 := (P3.out).c1
      have c2 := (P3.out).c2
      have c3 := (P3.out).c3
      have c4 := (P3.out).c4
      have c5 := (P3.out).c5
      have r0 := (P3.out).r0
      have r1 := (P3.out).r1
      have r2 := (P3.out).r2
      have f0 := (P3.out).f0
      go_wp2_with fail
      clear c0 c1 c2 c3 c4 c5 r0 r1 r2 f0
      all_goals
        refine (HAD.out w3 a1 k1 a2 k2 D1'.out D2.out).mono ?_
        rintro en w4 ⟨a4, k4, rfl, hc, hd, hb, hf⟩
        have HS3 := P3.out.sz
        have P4 := Hd.mk (P3.out.below hb)
        have B4 := Hd.mk (B3.out.trans (hb.mono B3.out.size))
        have D4 := Hd.mk hd
        have F4 : Hd (∀ b o v, a4 = some ⟨b, o, v⟩ → w.heap.size + 1 + 1 < b) := ⟨fun b o v e => by have h1 := hf b o v e; omega⟩
        clear hc hd hb hf HS3
        have c0 := (P4.out).c0
        have c1 := (P4.out).c1
        have c2 := (P4.out).c2
        have c3 := (P4.out).c3
        have c4 := (P4.out).c4
        have c5 := (P4.out).c5
        have r0 := (P4.out).r0
        have r1 := (P4.out).r1
        have r2 := (P4.out).r2
        have f0 := (P4.out).f0
        go_wp2_with fail
        refine bodyPost_ret (v := .agg #[.bool g, .slice a4 (nd K) k4, .int .i64 E]) ?_ rfl ⟨a4, k4, rfl, ?_, ?_⟩
        · rw [← HG.out]
          simp [results, Try.results60, go_sem, r0, r1, r2]
          all_goals (first | assumption | (refine Bool.eq_false_iff.2 ?_; assumption) | (rename_i hx hy; rw [hx]; first | assumption | (refine Bool.eq_false_iff.2 ?_; assumption)))
        · repeat (refine Dgs.setOther ?_ F4.out _ _)
          exact D4.out
        · repeat (refine Below.setCell ?_ (by show w.heap.size ≤ w.heap.size + 1 + 1; omega) _)
          exact B4.out

end Go.Proofs.Yteikihidblcljaa

/- The walk of the reference's Plus, where digits are taken away. -/
namespace Go.Proofs.Yteikihidblcljaa
open Go.RowKit
set_option linter.unusedSimpArgs false
set_option linter.unusedVariables false

theorem PC.drewN {w : World} {b : Nat} {s : Bool} {a : Option Addr} {N c : Nat} {e : Int} {s' : Bool} {a' : Option Addr} {N' c' : Nat} {e' : Int} (h : PC w b s a N c e s' a' N' c' e') (k : Nat) : PC (w.drewN k) b s a N c e s' a' N' c' e' :=
  ⟨h.c0, h.c1, h.c2, h.c3, h.c4, h.c5, h.r0, h.r1, h.r2, h.f0, h.sz⟩

theorem PC.drew {w : World} {b : Nat} {s : Bool} {a : Option Addr} {N c : Nat} {e : Int} {s' : Bool} {a' : Option Addr} {N' c' : Nat} {e' : Int} (h : PC w b s a N c e s' a' N' c' e') : PC w.drew b s a N c e s' a' N' c' e' :=
  ⟨h.c0, h.c1, h.c2, h.c3, h.c4, h.c5, h.r0, h.r1, h.r2, h.f0, h.sz⟩

theorem cmpN_eq {x y : Nat} (h : x = y) : cmpN x y = 0 := by unfold cmpN; rw [if_neg (by omega), if_neg (by omega)]
theorem cmpN_gt {x y : Nat} (h : y < x) : cmpN x y = 1 := by unfold cmpN; rw [if_neg (by omega), if_pos h]
theorem cmpN_lt {x y : Nat} (h : x < y) : cmpN x y = -1 := by unfold cmpN; rw [if_pos h]



set_option maxHeartbeats 16000000 in
set_option maxRecDepth 100000 in
theorem plus_2 (s : Bool) (a : Option Addr) (N c : Nat) (e : Int) (s' : Bool) (a' : Option Addr) (N' c' : Nat) (e' : Int) (w : World) (X Y A B : Nat) (E : Int) (H : Hd (Dgs w a X)) (H' : Hd (Dgs w a' Y))
    (HBo : Hd (∀ w, Calls Try.prog 104 #[.agg #[.bool s, .slice a N c, .int .i64 e], .agg #[.bool s', .slice a' N' c', .int .i64 e']] w fun en w' => en = .returned (.int .i64 E) ∧ Below w.heap.size w w'))
    (HLo : Hd (∀ w, Dgs w a X → Calls Try.prog 105 #[.agg #[.bool s, .slice a N c, .int .i64 e], .int .i64 E] w (DRet A w)))
    (HLo' : Hd (∀ w, Dgs w a' Y → Calls Try.prog 105 #[.agg #[.bool s', .slice a' N' c', .int .i64 e'], .int .i64 E] w (DRet B w)))
    (hA : nd A ≤ 100000) (hB : nd B ≤ 100000) (h0 : s ≠ s') (h1 : A ≠ 0) (h2 : B ≠ 0) :
    Calls Try.prog 60 #[.agg #[.bool s, .slice a N c, .int .i64 e], .agg #[.bool s', .slice a' N' c', .int .i64 e']] w
      (NRet (if A = B then false else if B < A then s else s') (if A = B then 0 else if B < A then A - B else B - A) (if A = B then 0 else E) w) := by
  have HCM : Hd (∀ w a1 k1 a2 k2, Dgs w a1 A → Dgs w a2 B → Calls Try.prog 107 #[.slice a1 (nd A) k1, .slice a2 (nd B) k2] w fun e w' => ∃ k, e = .returned (.int .i64 (cmpN A B)) ∧ w' = w.drewN k) := ⟨fun w a1 k1 a2 k2 h h' => cmpDigits_any a1 A k1 a2 B k2 w h h' (by omega) (by omega)⟩
  have HSU : Hd (B ≤ A → ∀ w a1 k1 a2 k2, Dgs w a1 A → Dgs w a2 B → Calls Try.prog 108 #[.slice a1 (nd A) k1, .slice a2 (nd B) k2] w (DRet (A - B) w)) := ⟨fun hle w a1 k1 a2 k2 h h' => subDigits_any a1 A k1 a2 B k2 w h h' (by omega) (by omega) hle⟩
  have HSU' : Hd (A ≤ B → ∀ w a1 k1 a2 k2, Dgs w a1 B → Dgs w a2 A → Calls Try.prog 108 #[.slice a1 (nd B) k1, .slice a2 (nd A) k2] w (DRet (B - A) w)) := ⟨fun hle w a1 k1 a2 k2 h h' => subDigits_any a1 B k1 a2 A k2 w h h' (by omega) (by omega) hle⟩
  have t1 : (s == s') = false := by rw [beq_eq_false_iff_ne]; exact h0
  have t2 : ((nd A : Int) == 0) = false := by rw [beq_eq_false_iff_ne]; have := nd_pos h1; omega
  have t3 : ((nd B : Int) == 0) = false := by rw [beq_eq_false_iff_ne]; have := nd_pos h2; omega
  unfold DRet at HLo HLo'
  rcases Nat.lt_trichotomy A B with hlt | heq | hgt
  · rw [if_neg (by omega), if_neg (by omega), if_neg (by omega), if_neg (by omega), if_neg (by omega)]
    rw [cmpN_lt hlt] at HCM
    have HSB := Hd.mk (HSU'.out (Nat.le_of_lt hlt))
    generalize B - A = K at *
    generalize nd A = nA at *
    generalize nd B = nB at *
    clear HSU HSU' h0 h1 h2 hlt
    go_enter Try.func60, Try.ntmps60
    go_wp2_with fail
    refine (HBo.out _).mono ?_; rintro en w1 ⟨rfl, hb⟩
    have P1 : Hd (PC w1 w.heap.size s a N c e s' a' N' c' e') := ⟨PC.below ⟨by go_simp, by go_simp, by go_simp, by go_simp, by go_simp, by go_simp, by go_simp, by go_simp, by go_simp, fun o => by go_simp, by simp⟩ hb⟩
    have B1 : Hd (Below w.heap.size w w1) := ⟨(below_3 w _ _ _).trans (hb.mono (by simp; omega))⟩
    clear hb
    have c0 := (P1.out).c0
    have c1 := (P1.out).c1
    have c2 := (P1.out).c2
    have c3 := (P1.out).c3
    have c4 := (P1.out).c4
    have c5 := (P1.out).c5
    have r0 := (P1.out).r0
    have r1 := (P1.out).r1
    have r2 := (P1.out).r2
    have f0 := (P1.out).f0
    go_wp2_with fail
    clear c0 c1 c2 c3 c4 c5 r0 r1 r2 f0
    refine (HLo.out _ (H.out.below B1.out)).mono ?_; rintro en w2 ⟨a1, k1, rfl, hc, hd, hb, hf⟩
    have P2 := Hd.mk (P1.out.below hb)
    have B2 := Hd.mk (B1.out.trans (hb.mono B1.out.size))
    have D1 := Hd.mk hd
    clear hc hd hb hf
    have c0 := (P2.out).c0
    have c1 := (P2.out).c1
    have c2 := (P2.out).c2
    have c3 := (P2.out).c3
    have c4 := (P2.out).c4
    have c5 := (P2.out).c5
    have r0 := (P2.out).r0
    have r1 := (P2.out).r1
    have r2 := (P2.out).r2
    have f0 := (P2.out).f0
    go_wp2_with fail
    clear c0 c1 c2 c3 c4 c5 r0 r1 r2 f0
    refine (HLo'.out _ (H'.out.below B2.out)).mono ?_; rintro en w3 ⟨a2, k2, rfl, hc, hd, hb, hf⟩
    have P3 := Hd.mk (P2.out.below hb)
    have B3 := Hd.mk (B2.out.trans (hb.mono B2.out.size))
    have D2 := Hd.mk hd
    have D1' := Hd.mk (D1.out.below hb)
    clear hc hd hb hf
    have c0 := (P3.out).c0
    have c1 := (P3.out).c1
    have c2 := (P3.out).c2
    have c3 := (P3.out).c3
    have c4 := (P3.out).c4
    have c5 := (P3.out).c5
    have r0 := (P3.out).r0
    have r1 := (P3.out).r1
    have r2 := (P3.out).r2
    have f0 := (P3.out).f0
    go_wp2_with fail
    clear c0 c1 c2 c3 c4 c5 r0 r1 r2 f0
    all_goals
      refine (HCM.out w3 a1 k1 a2 k2 D1'.out D2.out).mono ?_
      rintro en w4 ⟨kk, rfl, rfl⟩
      have P4 := Hd.mk (P3.out.drewN kk)
      have c0 := (P4.out).c0
      have c1 := (P4.out).c1
      have c2 := (P4.out).c2
      have c3 := (P4.out).c3
      have c4 := (P4.out).c4
      have c5 := (P4.out).c5
      have r0 := (P4.out).r0
      have r1 := (P4.out).r1
      have r2 := (P4.out).r2
      have f0 := (P4.out).f0
      go_wp2_with fail
      have U1 : Hd (Dgs (w3.drewN kk).drew a1 A) := ⟨D1'.out.keep fun _ _ _ h => h⟩
      have U2 : Hd (Dgs (w3.drewN kk).drew a2 B) := ⟨D2.out.keep fun _ _ _ h => h⟩
      go_region_held3 (fun w' => w'.cell? ⟨w.heap.size, 0, none⟩ = some (.bool s) ∧ w'.cell? ⟨w.heap.size + 1, 0, none⟩ = some (.bool s')) (first | exact ⟨c0, c3⟩ | exact ⟨d0, d3⟩ | (refine ⟨?_, ?_⟩ <;> go_simp)) (first | (go_at_call 108; refine (HSB.out _ a2 k2 a1 k1 U2.out U1.out).mono ?_; rintro en w4 ⟨a4, k4, rfl, hc, hd, hb, hf⟩; have HS3 := P4.out.sz; have P5 := P4.out.drew.below hb; have d0 := P5.c0; have d3 := P5.c3; have q0 := P5.r0; have q1 := P5.r1; have q2 := P5.r2; have g0 := P5.f0; have B4 := Hd.mk ((below_drewN B3.out kk).drew.trans (hb.mono B3.out.size)); have D4 := Hd.mk hd; have F4 : Hd (∀ b o v, a4 = some ⟨b, o, v⟩ → w.heap.size + 1 + 1 < b) := ⟨fun b o v e => by have h1 := hf b o v e; have h2 : w3.heap.size ≤ b := h1; have h3 : w.heap.size + 1 + 1 < w3.heap.size := HS3; omega⟩; clear hc hd hb hf HS3 P5))
      go_wp2_with fail
      refine bodyPost_ret (v := .agg #[.bool s', .slice a4 (nd K) k4, .int .i64 E]) ?_ rfl ⟨a4, k4, rfl, ?_, ?_⟩
      · simp [results, Try.results60, go_sem, q0, q1, q2]
      · repeat (refine Dgs.setOther ?_ F4.out _ _)
        exact D4.out
      · repeat (refine Below.setCell ?_ (by show w.heap.size ≤ w.heap.size + 1 + 1; omega) _)
        exact B4.out
  · rw [if_pos heq, if_pos heq, if_pos heq]
    rw [cmpN_eq heq] at HCM
    generalize nd A = nA at *
    generalize nd B = nB at *
    clear HSU HSU' h0 h1 h2 heq
    go_enter Try.func60, Try.ntmps60
    go_wp2_with fail
    refine (HBo.out _).mono ?_; rintro en w1 ⟨rfl, hb⟩
    have P1 : Hd (PC w1 w.heap.size s a N c e s' a' N' c' e') := ⟨PC.below ⟨by go_simp, by go_simp, by go_simp, by go_simp, by go_simp, by go_simp, by go_simp, by go_simp, by go_simp, fun o => by go_simp, by simp⟩ hb⟩
    have B1 : Hd (Below w.heap.size w w1) := ⟨(below_3 w _ _ _).trans (hb.mono (by simp; omega))⟩
    clear hb
    have c0 := (P1.out).c0
    have c1 := (P1.out).c1
    have c2 := (P1.out).c2
    have c3 := (P1.out).c3
    have c4 := (P1.out).c4
    have c5 := (P1.out).c5
    have r0 := (P1.out).r0
    have r1 := (P1.out).r1
    have r2 := (P1.out).r2
    have f0 := (P1.out).f0
    go_wp2_with fail
    clear c0 c1 c2 c3 c4 c5 r0 r1 r2 f0
    refine (HLo.out _ (H.out.below B1.out)).mono ?_; rintro en w2 ⟨a1, k1, rfl, hc, hd, hb, hf⟩
    have P2 := Hd.mk (P1.out.below hb)
    have B2 := Hd.mk (B1.out.trans (hb.mono B1.out.size))
    have D1 := Hd.mk hd
    clear hc hd hb hf
    have c0 := (P2.out).c0
    have c1 := (P2.out).c1
    have c2 := (P2.out).c2
    have c3 := (P2.out).c3
    have c4 := (P2.out).c4
    have c5 := (P2.out).c5
    have r0 := (P2.out).r0
    have r1 := (P2.out).r1
    have r2 := (P2.out).r2
    have f0 := (P2.out).f0
    go_wp2_with fail
    clear c0 c1 c2 c3 c4 c5 r0 r1 r2 f0
    refine (HLo'.out _ (H'.out.below B2.out)).mono ?_; rintro en w3 ⟨a2, k2, rfl, hc, hd, hb, hf⟩
    have P3 := Hd.mk (P2.out.below hb)
    have B3 := Hd.mk (B2.out.trans (hb.mono B2.out.size))
    have D2 := Hd.mk hd
    have D1' := Hd.mk (D1.out.below hb)
    clear hc hd hb hf
    have c0 := (P3.out).c0
    have c1 := (P3.out).c1
    have c2 := (P3.out).c2
    have c3 := (P3.out).c3
    have c4 := (P3.out).c4
    have c5 := (P3.out).c5
    have r0 := (P3.out).r0
    have r1 := (P3.out).r1
    have r2 := (P3.out).r2
    have f0 := (P3.out).f0
    go_wp2_with fail
    clear c0 c1 c2 c3 c4 c5 r0 r1 r2 f0
    all_goals
      refine (HCM.out w3 a1 k1 a2 k2 D1'.out D2.out).mono ?_
      rintro en w4 ⟨kk, rfl, rfl⟩
      have P4 := Hd.mk (P3.out.drewN kk)
      have c0 := (P4.out).c0
      have c1 := (P4.out).c1
      have c2 := (P4.out).c2
      have c3 := (P4.out).c3
      have c4 := (P4.out).c4
      have c5 := (P4.out).c5
      have r0 := (P4.out).r0
      have r1 := (P4.out).r1
      have r2 := (P4.out).r2
      have f0 := (P4.out).f0
      go_wp2_with fail
      refine bodyPost_ret (v := .agg #[.bool false, .slice none 0 0, .int .i64 0]) ?_ rfl ⟨none, 0, rfl, Dgs.zero _, ?_⟩
      · simp [results, Try.results60, go_sem, r0, r1, r2]
      · repeat (refine Below.setCell ?_ (by show w.heap.size ≤ w.heap.size + 1 + 1; omega) _)
        exact below_drewN B3.out kk
  · rw [if_neg (by omega), if_pos hgt, if_neg (by omega), if_pos hgt, if_neg (by omega)]
    rw [cmpN_gt hgt] at HCM
    have HSB := Hd.mk (HSU.out (Nat.le_of_lt hgt))
    generalize A - B = K at *
    generalize nd A = nA at *
    generalize nd B = nB at *
    clear HSU HSU' h0 h1 h2 hgt
    go_enter Try.func60, Try.ntmps60
    go_wp2_with fail
    refine (HBo.out _).mono ?_; rintro en w1 ⟨rfl, hb⟩
    have P1 : Hd (PC w1 w.heap.size s a N c e s' a' N' c' e') := ⟨PC.below ⟨by go_simp, by go_simp, by go_simp, by go_simp, by go_simp, by go_simp, by go_simp, by go_simp, by go_simp, fun o => by go_simp, by simp⟩ hb⟩
    have B1 : Hd (Below w.heap.size w w1) := ⟨(below_3 w _ _ _).trans (hb.mono (by simp; omega))⟩
    clear hb
    have c0 := (P1.out).c0
    have c1 := (P1.out).c1
    have c2 := (P1.out).c2
    have c3 := (P1.out).c3
    have c4 := (P1.out).c4
    have c5 := (P1.out).c5
    have r0 := (P1.out).r0
    have r1 := (P1.out).r1
    have r2 := (P1.out).r2
    have f0 := (P1.out).f0
    go_wp2_with fail
    clear c0 c1 c2 c3 c4 c5 r0 r1 r2 f0
    refine (HLo.out _ (H.out.below B1.out)).mono ?_; rintro en w2 ⟨a1, k1, rfl, hc, hd, hb, hf⟩
    have P2 := Hd.mk (P1.out.below hb)
    have B2 := Hd.mk (B1.out.trans (hb.mono B1.out.size))
    have D1 := Hd.mk hd
    clear hc hd hb hf
    have c0 := (P2.out).c0
    have c1 := (P2.out).c1
    have c2 := (P2.out).c2
    have c3 := (P2.out).c3
    have c4 := (P2.out).c4
    have c5 := (P2.out).c5
    have r0 := (P2.out).r0
    have r1 := (P2.out).r1
    have r2 := (P2.out).r2
    have f0 := (P2.out).f0
    go_wp2_with fail
    clear c0 c1 c2 c3 c4 c5 r0 r1 r2 f0
    refine (HLo'.out _ (H'.out.below B2.out)).mono ?_; rintro en w3 ⟨a2, k2, rfl, hc, hd, hb, hf⟩
    have P3 := Hd.mk (P2.out.below hb)
    have B3 := Hd.mk (B2.out.trans (hb.mono B2.out.size))
    have D2 := Hd.mk hd
    have D1' := Hd.mk (D1.out.below hb)
    clear hc hd hb hf
    have c0 := (P3.out).c0
    have c1 := (P3.out).c1
    have c2 := (P3.out).c2
    have c3 := (P3.out).c3
    have c4 := (P3.out).c4
    have c5 := (P3.out).c5
    have r0 := (P3.out).r0
    have r1 := (P3.out).r1
    have r2 := (P3.out).r2
    have f0 := (P3.out).f0
    go_wp2_with fail
    clear c0 c1 c2 c3 c4 c5 r0 r1 r2 f0
    all_goals
      refine (HCM.out w3 a1 k1 a2 k2 D1'.out D2.out).mono ?_
      rintro en w4 ⟨kk, rfl, rfl⟩
      have P4 := Hd.mk (P3.out.drewN kk)
      have c0 := (P4.out).c0
      have c1 := (P4.out).c1
      have c2 := (P4.out).c2
      have c3 := (P4.out).c3
      have c4 := (P4.out).c4
      have c5 := (P4.out).c5
      have r0 := (P4.out).r0
      have r1 := (P4.out).r1
      have r2 := (P4.out).r2
      have f0 := (P4.out).f0
      go_wp2_with fail
      have U1 : Hd (Dgs (w3.drewN kk).drew a1 A) := ⟨D1'.out.keep fun _ _ _ h => h⟩
      have U2 : Hd (Dgs (w3.drewN kk).drew a2 B) := ⟨D2.out.keep fun _ _ _ h => h⟩
      go_region_held3 (fun w' => w'.cell? ⟨w.heap.size, 0, none⟩ = some (.bool s) ∧ w'.cell? ⟨w.heap.size + 1, 0, none⟩ = some (.bool s')) (first | exact ⟨c0, c3⟩ | exact ⟨d0, d3⟩ | (refine ⟨?_, ?_⟩ <;> go_simp)) (first | (go_at_call 108; refine (HSB.out _ a1 k1 a2 k2 U1.out U2.out).mono ?_; rintro en w4 ⟨a4, k4, rfl, hc, hd, hb, hf⟩; have HS3 := P4.out.sz; have P5 := P4.out.drew.below hb; have d0 := P5.c0; have d3 := P5.c3; have q0 := P5.r0; have q1 := P5.r1; have q2 := P5.r2; have g0 := P5.f0; have B4 := Hd.mk ((below_drewN B3.out kk).drew.trans (hb.mono B3.out.size)); have D4 := Hd.mk hd; have F4 : Hd (∀ b o v, a4 = some ⟨b, o, v⟩ → w.heap.size + 1 + 1 < b) := ⟨fun b o v e => by have h1 := hf b o v e; have h2 : w3.heap.size ≤ b := h1; have h3 : w.heap.size + 1 + 1 < w3.heap.size := HS3; omega⟩; clear hc hd hb hf HS3 P5))
      go_wp2_with fail
      refine bodyPost_ret (v := .agg #[.bool s, .slice a4 (nd K) k4, .int .i64 E]) ?_ rfl ⟨a4, k4, rfl, ?_, ?_⟩
      · simp [results, Try.results60, go_sem, q0, q1, q2]
      · repeat (refine Dgs.setOther ?_ F4.out _ _)
        exact D4.out
      · repeat (refine Below.setCell ?_ (by show w.heap.size ≤ w.heap.size + 1 + 1; omega) _)
        exact B4.out

/-- Plus, as a whole. -/
theorem plus_any (s : Bool) (a : Option Addr) (d c : Nat) (e : Int) (s' : Bool) (a' : Option Addr) (d' c' : Nat) (e' : Int) (w : World) (h : Dgs w a d) (h' : Dgs w a' d') (hs : nd d ≤ 10000) (hs' : nd d' ≤ 10000) (he : -5000 ≤ e ∧ e ≤ 5000) (he' : -5000 ≤ e' ∧ e' ≤ 5000) :
    Calls Try.prog 60 #[.agg #[.bool s, .slice a (nd d) c, .int .i64 e], .agg #[.bool s', .slice a' (nd d') c', .int .i64 e']] w
      (NRet (sumS s (lowN d e (plE d e d' e')) s' (lowN d' e' (plE d e d' e'))) (sumD s (lowN d e (plE d e d' e')) s' (lowN d' e' (plE d e d' e'))) (sumE s (lowN d e (plE d e d' e')) s' (lowN d' e' (plE d e d' e')) (plE d e d' e')) w) := by
  obtain ⟨E, hE⟩ : ∃ E, plE d e d' e' = E := ⟨_, rfl⟩
  have e1 : d ≠ 0 → E ≤ e := by intro h0; rw [← hE]; unfold plE; rw [if_neg h0]; split <;> omega
  have e2 : d' ≠ 0 → E ≤ e' := by intro h0; rw [← hE]; unfold plE; rw [if_neg h0]; split <;> omega
  have e3 : -5000 ≤ E ∧ E ≤ 5000 := by rw [← hE]; unfold plE; split; omega; split; omega; omega
  have HBo : Hd (∀ w, Calls Try.prog 104 #[.agg #[.bool s, .slice a (nd d) c, .int .i64 e], .agg #[.bool s', .slice a' (nd d') c', .int .i64 e']] w fun en w' => en = .returned (.int .i64 E) ∧ Below w.heap.size w w') := ⟨fun w => by rw [← hE]; exact both_any s a d c e s' a' d' c' e' w (by omega) (by omega)⟩
  have HLo : Hd (∀ w, Dgs w a d → Calls Try.prog 105 #[.agg #[.bool s, .slice a (nd d) c, .int .i64 e], .int .i64 E] w (DRet (lowN d e E) w)) := ⟨fun w h => low_any s a d c e E w h (by omega) e1 (by omega) (by omega)⟩
  have HLo' : Hd (∀ w, Dgs w a' d' → Calls Try.prog 105 #[.agg #[.bool s', .slice a' (nd d') c', .int .i64 e'], .int .i64 E] w (DRet (lowN d' e' E) w)) := ⟨fun w h => low_any s' a' d' c' e' E w h (by omega) e2 (by omega) (by omega)⟩
  have n1 : nd (lowN d e E) ≤ 100000 := nd_shift _ _ _ (by omega)
  have n2 : nd (lowN d' e' E) ≤ 100000 := nd_shift _ _ _ (by omega)
  rw [hE]
  by_cases hP : s = s' ∨ lowN d e E = 0 ∨ lowN d' e' E = 0
  · unfold sumS sumD sumE
    rw [if_pos hP, if_pos hP, if_pos hP]
    exact plus_1 s a (nd d) c e s' a' (nd d') c' e' w d d' _ _ E _ ⟨h⟩ ⟨h'⟩ HBo HLo HLo' n1 n2 hP rfl
  · unfold sumS sumD sumE
    rw [if_neg hP, if_neg hP, if_neg hP]
    exact plus_2 s a (nd d) c e s' a' (nd d') c' e' w d d' _ _ E ⟨h⟩ ⟨h'⟩ HBo HLo HLo' n1 n2 (fun h => hP (.inl h)) (fun h => hP (.inr (.inl h))) (fun h => hP (.inr (.inr h)))

end Go.Proofs.Yteikihidblcljaa
