/- Put together out of several texts: Dg Dw Dp Da Db Dc Dm Du Dd Dv Dn Do Dt Dq Dr. -/
import Derived.Test.YtmmcnjoeepgpgaaM1
import Derived.Test.YtmmcnjoeepgpgaaM2
import Derived.Deep.OwnRows
import Derived.Deep.LoopGhost
import Derived.Deep.QuietTactic
import Derived.BigQuiet
import Derived.WalkSmall
import Derived.Lib.MinMax
import Derived.StillTailTactics
import Derived.Deep.RegionHeld3
import Derived.Laws.BitsAllLaws

/- Plain: whole numbers by their digits to the base 2^32. No program. -/
namespace Go.Proofs.Ytmmcnjoeepgpgaa

abbrev BB : Nat := 4294967296
/-- The i-th digit. -/
def dg (x i : Nat) : Nat := x / BB ^ i % BB
/-- How many digits. -/
def nd (x : Nat) : Nat := if x = 0 then 0 else x.log2 / 32 + 1
/-- The value of n digits. -/
def vl : Nat → (Nat → Nat) → Nat
  | 0, _ => 0
  | n + 1, f => vl n f + f n * BB ^ n
/-- One digit set. -/
def upd (f : Nat → Nat) (i v : Nat) : Nat → Nat := fun j => if j = i then v else f j

theorem BB_pow (n : Nat) : BB ^ n = 2 ^ (32 * n) := by rw [Nat.pow_mul]
theorem BB_pos (n : Nat) : 0 < BB ^ n := Nat.pow_pos (by decide)

theorem dg_lt (x i : Nat) : dg x i < 4294967296 := Nat.mod_lt _ (by decide)

theorem nd_zero : nd 0 = 0 := rfl

theorem lt_nd (x : Nat) : x < BB ^ nd x := by
  unfold nd
  by_cases h : x = 0
  · subst h; exact Nat.pow_pos (by decide)
  · rw [if_neg h, BB_pow]
    have := (Nat.log2_lt (k := x.log2 + 1) h).1 (by omega)
    exact Nat.lt_of_lt_of_le this (Nat.pow_le_pow_right (by decide) (by omega))

theorem nd_le {x n : Nat} (h : x < BB ^ n) : nd x ≤ n := by
  unfold nd
  by_cases h0 : x = 0
  · rw [if_pos h0]; omega
  · rw [if_neg h0]
    rw [BB_pow] at h
    have := (Nat.log2_lt h0).2 h
    omega

theorem le_of_nd {x n : Nat} (h : n < nd x) : BB ^ n ≤ x := by
  refine Nat.le_of_not_lt fun hc => ?_
  have := nd_le hc
  omega

theorem nd_pos {x : Nat} (h : x ≠ 0) : 0 < nd x := by unfold nd; rw [if_neg h]; omega
theorem nd_eq_zero {x : Nat} : nd x = 0 ↔ x = 0 := by
  constructor
  · intro h; refine Decidable.byContradiction fun hc => ?_; have := nd_pos hc; omega
  · intro h; rw [h]; rfl

theorem dg_zero {x i : Nat} (h : x < BB ^ i) : dg x i = 0 := by unfold dg; rw [Nat.div_eq_of_lt h]; rfl
theorem dg_high {x i : Nat} (h : nd x ≤ i) : dg x i = 0 := dg_zero (Nat.lt_of_lt_of_le (lt_nd x) (Nat.pow_le_pow_right (by decide) h))

theorem mod_succ (x i : Nat) : x % BB ^ (i + 1) = x % BB ^ i + dg x i * BB ^ i := by
  unfold dg; rw [Nat.mod_pow_succ, Nat.mul_comm]

theorem dg_top {x : Nat} (h : x ≠ 0) : dg x (nd x - 1) ≠ 0 := by
  intro hc
  have h1 := mod_succ x (nd x - 1)
  have hp := nd_pos h
  rw [show nd x - 1 + 1 = nd x by omega, Nat.mod_eq_of_lt (lt_nd x), hc, Nat.zero_mul, Nat.add_zero] at h1
  have h2 : x % BB ^ (nd x - 1) < BB ^ (nd x - 1) := Nat.mod_lt _ (BB_pos _)
  have h3 := le_of_nd (x := x) (n := nd x - 1) (by omega)
  omega

/-- A number with n digits of which the last is not 0. -/
theorem nd_of {x n : Nat} (h : x < BB ^ n) (h0 : 0 < n) (ht : dg x (n - 1) ≠ 0) : nd x = n := by
  have h1 := nd_le h
  rcases Nat.lt_or_ge (nd x) n with h2 | h2
  · exact absurd (dg_high (x := x) (i := n - 1) (by omega)) ht
  · omega

theorem vl_dg (x : Nat) : ∀ n, vl n (dg x) = x % BB ^ n
  | 0 => by simp [vl, Nat.mod_one]
  | n + 1 => by rw [vl, vl_dg x n, mod_succ]

theorem vl_nd (x : Nat) : vl (nd x) (dg x) = x := by rw [vl_dg, Nat.mod_eq_of_lt (lt_nd x)]

theorem vl_lt {f : Nat → Nat} : ∀ {n}, (∀ j, j < n → f j < BB) → vl n f < BB ^ n
  | 0, _ => by simp [vl]
  | n + 1, h => by
    have h1 := vl_lt (n := n) (fun j hj => h j (by omega))
    have h2 := h n (by omega)
    rw [vl, Nat.pow_succ]
    have h3 : f n + 1 ≤ BB := h2
    calc vl n f + f n * BB ^ n < BB ^ n + f n * BB ^ n := by omega
      _ = (f n + 1) * BB ^ n := by rw [Nat.add_mul, Nat.one_mul, Nat.add_comm]
      _ ≤ BB * BB ^ n := Nat.mul_le_mul_right _ h3
      _ = BB ^ n * BB := Nat.mul_comm _ _

theorem vl_congr {f g : Nat → Nat} : ∀ {n}, (∀ j, j < n → f j = g j) → vl n f = vl n g
  | 0, _ => rfl
  | n + 1, h => by rw [vl, vl, vl_congr (n := n) (fun j hj => h j (by omega)), h n (by omega)]

theorem vl_mod {f : Nat → Nat} : ∀ {n}, (∀ j, j < n → f j < BB) → ∀ i, i ≤ n → vl n f % BB ^ i = vl i f
  | 0, _, i, hi => by obtain rfl : i = 0 := by omega
                      simp [vl]
  | n + 1, h, i, hi => by
    rcases Nat.lt_or_ge n i with h1 | h1
    · obtain rfl : i = n + 1 := by omega
      exact Nat.mod_eq_of_lt (vl_lt h)
    · rw [vl]
      have h2 : BB ^ n = BB ^ i * BB ^ (n - i) := by rw [← Nat.pow_add]; congr 1; omega
      rw [h2, Nat.mul_comm (f n), Nat.mul_assoc, Nat.add_mul_mod_self_left]
      exact vl_mod (fun j hj => h j (by omega)) i h1

/-- Digits are what they are. -/
theorem vl_dig {f : Nat → Nat} {n : Nat} (h : ∀ j, j < n → f j < BB) (i : Nat) (hi : i < n) : f i = dg (vl n f) i := by
  have h1 := vl_mod h i (by omega)
  have h2 := vl_mod h (i + 1) (by omega)
  rw [mod_succ, h1, vl] at h2
  have := Nat.eq_of_mul_eq_mul_right (BB_pos i) (show dg (vl n f) i * BB ^ i = f i * BB ^ i by omega)
  exact this.symm

theorem vl_upd (f : Nat → Nat) (i v : Nat) : ∀ n, i < n → vl n (upd f i v) + f i * BB ^ i = vl n f + v * BB ^ i
  | 0, h => by omega
  | n + 1, h => by
    rw [vl, vl]
    by_cases e : i = n
    · subst e
      have h1 : vl i (upd f i v) = vl i f := vl_congr fun j hj => by unfold upd; rw [if_neg (by omega)]
      have h2 : upd f i v i = v := by unfold upd; rw [if_pos rfl]
      rw [h1, h2]; omega
    · have h1 := vl_upd f i v n (by omega)
      have h2 : upd f i v n = f n := by unfold upd; rw [if_neg (by omega)]
      rw [h2]; omega

theorem vl_zero : ∀ n, vl n (fun _ => 0) = 0
  | 0 => rfl
  | n + 1 => by rw [vl, vl_zero n]; simp

theorem vl_zeros {f : Nat → Nat} {m : Nat} : ∀ n, (∀ j, m ≤ j → j < n → f j = 0) → m ≤ n → vl n f = vl m f
  | 0, _, hm => by obtain rfl : m = 0 := by omega
                   rfl
  | n + 1, h, hm => by
    rcases Nat.lt_or_ge n m with h1 | h1
    · obtain rfl : m = n + 1 := by omega
      rfl
    · rw [vl, h n h1 (by omega), vl_zeros n (fun j a b => h j a (by omega)) h1]; simp

/-- A carry's step. -/
theorem add_step (x y c i : Nat) (hc : c * BB ^ i + (x + y) % BB ^ i = x % BB ^ i + y % BB ^ i) :
    (dg x i + dg y i + c) % BB = dg (x + y) i ∧ (dg x i + dg y i + c) / BB * BB ^ (i + 1) + (x + y) % BB ^ (i + 1) = x % BB ^ (i + 1) + y % BB ^ (i + 1) := by
  have h1 := mod_succ x i
  have h2 := mod_succ y i
  have h3 := mod_succ (x + y) i
  have hp := BB_pos i
  have e : x % BB ^ (i + 1) + y % BB ^ (i + 1) = (dg x i + dg y i + c) * BB ^ i + (x + y) % BB ^ i := by
    rw [h1, h2, Nat.add_mul, Nat.add_mul]; omega
  have hm : (x % BB ^ (i + 1) + y % BB ^ (i + 1)) % BB ^ (i + 1) = (x + y) % BB ^ (i + 1) := (Nat.add_mod _ _ _).symm
  have hl : (x + y) % BB ^ i < BB ^ i := Nat.mod_lt _ hp
  have hs : (dg x i + dg y i + c) % BB = dg (x + y) i := by
    rw [e, h3] at hm
    have h4 : ((dg x i + dg y i + c) * BB ^ i + (x + y) % BB ^ i) % BB ^ (i + 1) = (dg x i + dg y i + c) % BB * BB ^ i + (x + y) % BB ^ i := by
      rw [Nat.mod_pow_succ, Nat.add_comm ((dg x i + dg y i + c) * BB ^ i), Nat.add_mul_mod_self_right, Nat.mod_eq_of_lt hl, Nat.add_mul_div_right _ _ hp, Nat.div_eq_of_lt hl, Nat.zero_add, Nat.mul_comm (BB ^ i)]
      omega
    rw [h4] at hm
    exact Nat.eq_of_mul_eq_mul_right hp (by omega)
  refine ⟨hs, ?_⟩
  rw [e, h3, ← hs]
  have := Nat.div_add_mod (dg x i + dg y i + c) BB
  generalize (dg x i + dg y i + c) / BB = q at *
  generalize (dg x i + dg y i + c) % BB = r at *
  generalize (dg x i + dg y i + c) = s at *
  rw [Nat.pow_succ, ← this, Nat.add_mul]
  rw [Nat.mul_comm (BB ^ i) BB, ← Nat.mul_assoc, Nat.mul_comm q BB]
  omega

end Go.Proofs.Ytmmcnjoeepgpgaa

/- The walks of the reference's digits: digit, trim, AddDigits .. -/
namespace Go.Proofs.Ytmmcnjoeepgpgaa
open Go.RowKit
set_option linter.unusedSimpArgs false
set_option linter.unusedVariables false

/-- A slice of digits, told as a number. -/
structure Dgs (w : World) (a : Option Addr) (x : Nat) : Prop where
  nil : a = none → x = 0
  cell : ∀ b o v, a = some ⟨b, o, v⟩ → ∀ i, i < nd x → v = none ∧ w.cell? ⟨b, o + i, none⟩ = some (.int .u64 (dg x i))

theorem Dgs.keep {w w' : World} {a : Option Addr} {x : Nat} (h : Dgs w a x) (hb : ∀ b o v, w.cell? ⟨b, o, none⟩ = some v → w'.cell? ⟨b, o, none⟩ = some v) : Dgs w' a x :=
  ⟨h.nil, fun b o v e i hi => ⟨(h.cell b o v e i hi).1, hb _ _ _ (h.cell b o v e i hi).2⟩⟩
theorem Dgs.below {w w' : World} {a : Option Addr} {x : Nat} (h : Dgs w a x) (hb : Below w.heap.size w w') : Dgs w' a x :=
  h.keep fun b o v hc => by rw [hb.cell (p := ⟨b, o, none⟩) (World.block_lt_of_cell? _ _ hc), hc]
theorem Dgs.zero (w : World) : Dgs w none 0 := ⟨fun _ => rfl, fun _ _ _ h => by cases h⟩
theorem Dgs.some {w : World} {a : Option Addr} {x : Nat} (h : Dgs w a x) (hp : 0 < nd x) : ∃ b o, a = Option.some ⟨b, o, none⟩ := by
  cases a with
  | none => have := h.nil rfl; rw [this] at hp; simp [nd] at hp
  | some p => obtain ⟨b, o, v⟩ := p; obtain ⟨rfl, _⟩ := h.cell b o v rfl 0 hp; exact ⟨b, o, rfl⟩

/-- It returns the digits of z. -/
def DRet (z : Nat) (w : World) (e : Ending) (w' : World) : Prop := ∃ a c, e = .returned (.slice a (nd z) c) ∧ nd z ≤ c ∧ Dgs w' a z ∧ Below w.heap.size w w' ∧ ∀ b o v, a = some ⟨b, o, v⟩ → w.heap.size ≤ b

end Go.Proofs.Ytmmcnjoeepgpgaa

/- Plain: bit lengths, comparing and subtracting by digits. No program. -/
namespace Go.Proofs.Ytmmcnjoeepgpgaa

/-- How many bits. -/
def bl (x : Nat) : Nat := if x = 0 then 0 else x.log2 + 1

theorem bl_half {v : Nat} (h : v ≠ 0) : bl v = bl (v / 2) + 1 := by
  unfold bl
  rw [if_neg h, Nat.log2_def]
  by_cases h2 : v < 2
  · obtain rfl : v = 1 := by omega
    rfl
  · rw [if_pos (by omega), if_neg (show ¬ v / 2 = 0 by omega)]

theorem bl_lt (x : Nat) : x < 2 ^ bl x := by
  unfold bl
  by_cases h : x = 0
  · subst h; decide
  · rw [if_neg h]; exact Nat.lt_log2_self
theorem bl_le {x n : Nat} (h : x < 2 ^ n) : bl x ≤ n := by
  unfold bl
  by_cases h0 : x = 0
  · rw [if_pos h0]; omega
  · rw [if_neg h0]; have := (Nat.log2_lt h0).2 h; omega
theorem le_of_bl {x n : Nat} (h : n < bl x) : 2 ^ n ≤ x := by
  refine Nat.le_of_not_lt fun hc => ?_
  have := bl_le hc; omega
theorem bl_eq {x n : Nat} (h1 : 2 ^ n ≤ x) (h2 : x < 2 ^ (n + 1)) : bl x = n + 1 := by
  have a := bl_le h2
  rcases Nat.lt_or_ge n (bl x) with h | h
  · omega
  · have := bl_lt x
    have := Nat.pow_le_pow_right (n := 2) (by decide) h
    omega

theorem bl_top {x : Nat} (h : x ≠ 0) : bl x = 32 * (nd x - 1) + bl (dg x (nd x - 1)) := by
  have hp := nd_pos h
  have e := mod_succ x (nd x - 1)
  rw [show nd x - 1 + 1 = nd x by omega, Nat.mod_eq_of_lt (lt_nd x)] at e
  have ht := dg_top h
  have hl : x % BB ^ (nd x - 1) < BB ^ (nd x - 1) := Nat.mod_lt _ (BB_pos _)
  generalize dg x (nd x - 1) = d at *
  generalize x % BB ^ (nd x - 1) = r at *
  rw [BB_pow] at *
  generalize 32 * (nd x - 1) = m at *
  have hd : bl d ≠ 0 := by unfold bl; rw [if_neg ht]; omega
  obtain ⟨n, hn⟩ : ∃ n, bl d = n + 1 := ⟨bl d - 1, by omega⟩
  have h1 := le_of_bl (x := d) (n := n) (by omega)
  have h2 := bl_lt d
  rw [hn] at h2 ⊢
  have e1 : x = 2 ^ m * d + r := by rw [Nat.mul_comm]; omega
  rw [show m + (n + 1) = (m + n) + 1 by omega]
  refine bl_eq ?_ ?_
  · rw [Nat.pow_add]
    have := Nat.mul_le_mul_left (2 ^ m) h1
    omega
  · rw [show m + n + 1 = m + (n + 1) by omega, Nat.pow_add]
    have : 2 ^ m * (d + 1) ≤ 2 ^ m * 2 ^ (n + 1) := Nat.mul_le_mul_left _ h2
    rw [Nat.mul_add] at this
    omega

/-- Which is greater: -1, 0, 1. -/
def cmpN (x y : Nat) : Int := if x < y then -1 else if y < x then 1 else 0

theorem cmp_nd {x y : Nat} (h : nd x < nd y) : x < y :=
  Nat.lt_of_lt_of_le (lt_nd x) (le_of_nd h)

theorem cmp_step_lt {x y i : Nat} (h : x / BB ^ (i + 1) = y / BB ^ (i + 1)) (hd : dg x i < dg y i) : x < y := by
  have a := Nat.div_add_mod x (BB ^ (i + 1))
  have b := Nat.div_add_mod y (BB ^ (i + 1))
  rw [h, mod_succ] at a
  rw [mod_succ] at b
  have l1 : x % BB ^ i < BB ^ i := Nat.mod_lt _ (BB_pos _)
  have : (dg x i + 1) * BB ^ i ≤ dg y i * BB ^ i := Nat.mul_le_mul_right _ hd
  rw [Nat.add_mul, Nat.one_mul] at this
  generalize x % BB ^ i = p at *
  generalize y % BB ^ i = q at *
  omega
theorem cmp_step_eq {x y i : Nat} (h : x / BB ^ (i + 1) = y / BB ^ (i + 1)) (hd : dg x i = dg y i) : x / BB ^ i = y / BB ^ i := by
  have e : ∀ z, z / BB ^ i = z / BB ^ (i + 1) * BB + dg z i := by
    intro z
    unfold dg
    rw [Nat.pow_succ, ← Nat.div_div_eq_div_mul]
    have := Nat.div_add_mod (z / BB ^ i) BB
    rw [Nat.mul_comm] at this
    omega
  rw [e x, e y, h, hd]

/-- A borrow's step. -/
theorem sub_step (x y b i : Nat) (hxy : y ≤ x) (hb : b ≤ 1) (hc : x % BB ^ i + b * BB ^ i = (x - y) % BB ^ i + y % BB ^ i) :
    (dg x i + BB - dg y i - b) % BB = dg (x - y) i ∧ 1 - (dg x i + BB - dg y i - b) / BB ≤ 1 ∧ (dg x i + BB - dg y i - b) / BB ≤ 1 ∧
    x % BB ^ (i + 1) + (1 - (dg x i + BB - dg y i - b) / BB) * BB ^ (i + 1) = (x - y) % BB ^ (i + 1) + y % BB ^ (i + 1) := by
  obtain ⟨z, rfl⟩ : ∃ z, x = z + y := ⟨x - y, by omega⟩
  rw [Nat.add_sub_cancel] at *
  have l0 := dg_lt (z + y) i
  have l1 := dg_lt z i
  have l2 := dg_lt y i
  obtain ⟨s1, s2⟩ := add_step z y b i (by rw [Nat.add_comm]; exact hc)
  have hq : (dg z i + dg y i + b) / BB ≤ 1 := by
    have : (dg z i + dg y i + b) / 4294967296 ≤ 1 := by omega
    exact this
  have hdm := Nat.div_add_mod (dg z i + dg y i + b) BB
  rw [s1] at hdm
  have e : (dg (z + y) i + BB - dg y i - b) = dg z i + (1 - (dg z i + dg y i + b) / BB) * BB := by
    generalize (dg z i + dg y i + b) / BB = q at *
    have hB : BB = 4294967296 := rfl
    rcases (by omega : q = 0 ∨ q = 1) with rfl | rfl
    · rw [Nat.mul_zero] at hdm; rw [Nat.sub_zero, Nat.one_mul]; omega
    · rw [Nat.mul_one] at hdm; rw [Nat.sub_self, Nat.zero_mul]; omega
  rw [e]
  generalize (dg z i + dg y i + b) / BB = q at *
  have f1 : (dg z i + (1 - q) * BB) % BB = dg z i := by
    rw [Nat.add_mul_mod_self_right]; exact Nat.mod_eq_of_lt l1
  have f2 : (dg z i + (1 - q) * BB) / BB = 1 - q := by
    rw [Nat.add_mul_div_right _ _ (by decide), Nat.div_eq_of_lt l1, Nat.zero_add]
  rw [f1, f2]
  refine ⟨rfl, by omega, by omega, ?_⟩
  rw [show 1 - (1 - q) = q by omega, Nat.add_comm]
  exact s2

end Go.Proofs.Ytmmcnjoeepgpgaa

/- The walks of the reference's AddDigits, Len, CmpDigits, SubDigits. -/
namespace Go.Proofs.Ytmmcnjoeepgpgaa
open Go.RowKit
set_option linter.unusedSimpArgs false
set_option linter.unusedVariables false

theorem info_u64 : (Try.prog.info? 45).map (fun i => (i.zero, i.size, i.bytes)) = some (some (.int .u64 0), 1, 8) := by kernel_rfl

theorem make_u64 (n : Nat) (hn : n ≤ 35184372088832) (w : World) :
    (Instr.makeSlice 30 (.int .i64 (n : Int)) (.int .i64 (n : Int))).run Try.prog w = .ok (.slice (some ⟨w.heap.size, 0, none⟩) n n) (w.alloc (.cells (madeCells #[.int .u64 0] n) 45)) :=
  run_make_row' 30 45 (.int .u64 0) 8 Try.underlying30 info_u64 rfl .i64 .i64 n (by omega) (by omega) w

/-- A row that the call has made and filled. -/
structure Filled (w0 w : World) (b n : Nat) (f : Nat → Nat) : Prop where
  below : Below w0.heap.size w0 w
  own : w0.heap.size ≤ b
  row : w.rowIs b 45 n fun j => .int .u64 (f j)
  dig : ∀ j, f j < BB

theorem Filled.made (w : World) (n : Nat) : Filled w (w.alloc (.cells (madeCells #[.int .u64 0] n) 45)) w.heap.size n (fun _ => 0) where
  below := (Below.refl _ _).alloc (Nat.le_refl _) _
  own := Nat.le_refl _
  row := (World.rowIs_made w (.int .u64 0) n 45).congr fun i hi => rfl
  dig := fun j => by decide

theorem Filled.drewN {w0 w : World} {b n : Nat} {f : Nat → Nat} (h : Filled w0 w b n f) (k : Nat) : Filled w0 (w.drewN k) b n f where
  below := below_drewN h.below k
  own := h.own
  row := h.row
  dig := h.dig

theorem Filled.set {w0 w : World} {b n : Nat} {f : Nat → Nat} (h : Filled w0 w b n f) (i v : Nat) (hv : v < BB) : Filled w0 (w.setCell ⟨b, i, none⟩ (.int .u64 v)) b n (upd f i v) where
  below := h.below.setCell h.own _
  own := h.own
  row := (h.row.set i (.int .u64 v)).congr fun j hj => by
    unfold upd; by_cases e : j = i
    · rw [if_pos e, if_pos e]
    · rw [if_neg e, if_neg e]
  dig := fun j => by unfold upd; split; exact hv; exact h.dig j

theorem Filled.after {w0 w w' : World} {b n : Nat} {f : Nat → Nat} (h : Filled w0 w b n f) (hb : Below w.heap.size w w') : Filled w0 w' b n f where
  below := h.below.trans (hb.mono h.below.size)
  own := h.own
  row := h.row.of_block (hb.block b h.row.lt)
  dig := h.dig

/-- A filled row, trimmed, is handed back. -/
theorem filled_ret {w0 w : World} {b n z : Nat} {f : Nat → Nat} (h : Filled w0 w b n f) (hz : vl n f = z) {cp : Nat} (hcp : n ≤ cp) : DRet z w0 (.returned (.slice (some ⟨b, 0, none⟩) (nd z) cp)) w := by
  have hn : nd z ≤ n := by rw [← hz]; exact nd_le (vl_lt fun j _ => h.dig j)
  refine ⟨_, _, rfl, Nat.le_trans hn hcp, ⟨(fun e => by cases e), ?_⟩, h.below, fun b o v e => by cases e; exact h.own⟩
  intro b' o v e i hi
  cases e
  refine ⟨rfl, ?_⟩
  rw [Nat.zero_add, h.row.cell (by omega), vl_dig (fun j _ => h.dig j) i (by omega : i < n), hz]

theorem u64_in {s : Nat} (h : s < 18446744073709551616) : IntKind.u64.wrap (s : Int) = s := by rw [IntKind.wrap_u64]; omega

theorem tmod_BB (s : Nat) : Int.tmod (s : Int) 4294967296 = ((s % BB : Nat) : Int) := by
  rw [Int.tmod_eq_emod_of_nonneg (by omega)]; rfl
theorem tdiv_BB (s : Nat) : Int.tdiv (s : Int) 4294967296 = ((s / BB : Nat) : Int) := by
  rw [Int.tdiv_eq_ediv_of_nonneg (by omega)]; rfl

end Go.Proofs.Ytmmcnjoeepgpgaa

/- The walks of the reference's Len, CmpDigits, SubDigits. -/
namespace Go.Proofs.Ytmmcnjoeepgpgaa
open Go.RowKit
set_option linter.unusedSimpArgs false
set_option linter.unusedVariables false

end Go.Proofs.Ytmmcnjoeepgpgaa

/- The walk of the reference's SubDigits. -/
namespace Go.Proofs.Ytmmcnjoeepgpgaa
open Go.RowKit
set_option linter.unusedSimpArgs false
set_option linter.unusedVariables false

theorem Dgs.drewN {w : World} {a : Option Addr} {x : Nat} (h : Dgs w a x) (n : Nat) : Dgs (w.drewN n) a x := h.keep fun _ _ _ hc => hc

/-- Borrow's arithmetic, as the walk tells it. -/
theorem sub_digit (p q b : Nat) (hp : p < 4294967296) (hq : q < 4294967296) (hb : b ≤ 1) :
    (p : Int) + 4294967296 - q - b = ((p + BB - q - b : Nat) : Int) ∧ p + BB - q - b < 8589934592 := by
  show (p : Int) + 4294967296 - q - b = ((p + 4294967296 - q - b : Nat) : Int) ∧ p + 4294967296 - q - b < 8589934592
  omega

end Go.Proofs.Ytmmcnjoeepgpgaa

/- The walk of the reference's MulDigits. -/
namespace Go.Proofs.Ytmmcnjoeepgpgaa
open Go.RowKit
set_option linter.unusedSimpArgs false
set_option linter.unusedVariables false

/-- A step of the inner loop. -/
theorem mul_step (V V' A g d c y i k : Nat) (h : V + c * BB ^ (i + k) = A + d * BB ^ i * (y % BB ^ k))
    (hu : V' + g * BB ^ (i + k) = V + (g + d * dg y k + c) % BB * BB ^ (i + k)) :
    V' + (g + d * dg y k + c) / BB * BB ^ (i + (k + 1)) = A + d * BB ^ i * (y % BB ^ (k + 1)) := by
  rw [mod_succ]
  have e := Nat.div_add_mod (g + d * dg y k + c) BB
  have e1 : BB ^ (i + (k + 1)) = BB * BB ^ (i + k) := by rw [← Nat.add_assoc, Nat.pow_succ, Nat.mul_comm]
  have e2 : d * BB ^ i * (y % BB ^ k + dg y k * BB ^ k) = d * BB ^ i * (y % BB ^ k) + d * dg y k * BB ^ (i + k) := by
    rw [Nat.mul_add, Nat.pow_add]
    congr 1
    simp only [Nat.mul_assoc, Nat.mul_comm, Nat.mul_left_comm]
  rw [e1, e2]
  generalize dg y k = f at *
  generalize (g + d * f + c) % BB = r at *
  generalize (g + d * f + c) / BB = q at *
  generalize BB ^ (i + k) = Q at *
  have e3 : (BB * q + r) * Q = (g + d * f + c) * Q := by rw [e]
  rw [Nat.add_mul, Nat.add_mul, Nat.add_mul] at e3
  rw [show q * (BB * Q) = BB * q * Q by simp only [Nat.mul_assoc, Nat.mul_comm, Nat.mul_left_comm]]
  generalize BB * q * Q = z at *
  omega

/-- The inner loop's sum fits. -/
theorem mul_fits (g d e c : Nat) (hg : g < 4294967296) (hd : d < 4294967296) (he : e < 4294967296) (hc : c < 4294967296) : d * e ≤ 18446744065119617025 ∧ g + d * e + c < 18446744073709551616 ∧ (g + d * e + c) / BB < 4294967296 := by
  have h1 : d * e ≤ 4294967295 * 4294967295 := Nat.mul_le_mul (by omega) (by omega)
  generalize d * e = p at *
  refine ⟨by omega, by omega, ?_⟩
  show (g + p + c) / 4294967296 < 4294967296
  omega

end Go.Proofs.Ytmmcnjoeepgpgaa

/- The walk of the reference's ShiftUp. -/
namespace Go.Proofs.Ytmmcnjoeepgpgaa
open Go.RowKit
set_option linter.unusedSimpArgs false
set_option linter.unusedVariables false

theorem up_low (x i q r : Nat) (hr : r < 32) (f : Nat → Nat) (n : Nat) (hf : ∀ j, f j < BB) (hn : i + q < n) (hv : vl n f = x % BB ^ i * (BB ^ q * 2 ^ r)) :
    f (i + q) < 2 ^ r ∧ (i + q + 1 < n → f (i + q + 1) = 0) := by
  have hl : x % BB ^ i * (BB ^ q * 2 ^ r) < BB ^ (i + q) * 2 ^ r := by
    rw [← Nat.mul_assoc, Nat.pow_add]
    refine Nat.mul_lt_mul_of_pos_right ?_ (Nat.pow_pos (by decide))
    exact Nat.mul_lt_mul_of_pos_right (Nat.mod_lt _ (BB_pos _)) (BB_pos _)
  constructor
  · rw [vl_dig (fun j _ => hf j) (i + q) hn, hv]
    unfold dg
    refine Nat.lt_of_le_of_lt (Nat.mod_le _ _) ?_
    rw [Nat.div_lt_iff_lt_mul (BB_pos _), Nat.mul_comm (2 ^ r)]
    exact hl
  · intro h2
    rw [vl_dig (fun j _ => hf j) (i + q + 1) h2, hv]
    refine dg_zero (Nat.lt_of_lt_of_le hl ?_)
    rw [Nat.pow_succ]
    refine Nat.mul_le_mul_left _ ?_
    exact Nat.pow_le_pow_right (by decide) (by omega : r ≤ 32)

theorem up_fits (d r g : Nat) (hr : r < 32) (hd : d < 4294967296) (hg : g < 2 ^ r) : g + (d * 2 ^ r) % BB < 4294967296 ∧ d * 2 ^ r < 18446744073709551616 ∧ (d * 2 ^ r) / BB < 4294967296 := by
  have e : BB = 2 ^ r * 2 ^ (32 - r) := by rw [← Nat.pow_add, show r + (32 - r) = 32 by omega]
  have h1 : (d * 2 ^ r) % BB = 2 ^ r * (d % 2 ^ (32 - r)) := by rw [e, Nat.mul_comm d, Nat.mul_mod_mul_left]
  have h2 : d % 2 ^ (32 - r) + 1 ≤ 2 ^ (32 - r) := Nat.mod_lt _ (Nat.pow_pos (by decide))
  have h3 := Nat.mul_le_mul_left (2 ^ r) h2
  rw [← e, Nat.mul_add, ← h1, Nat.mul_one, show BB = 4294967296 from rfl] at h3
  have h4 : 2 ^ r ≤ 2 ^ 31 := Nat.pow_le_pow_right (by decide) (by omega)
  have h5 : d * 2 ^ r ≤ 4294967295 * 2147483648 := Nat.mul_le_mul (by omega) h4
  refine ⟨by rw [show BB = 4294967296 from rfl]; omega, by omega, ?_⟩
  rw [show BB = 4294967296 from rfl]; omega

theorem up_step (x i q r g V V1 V2 : Nat) (hv : V = x % BB ^ i * (BB ^ q * 2 ^ r))
    (h1 : V1 + g * BB ^ (i + q) = V + (g + (dg x i * 2 ^ r) % BB) * BB ^ (i + q)) (h2 : V2 = V1 + (dg x i * 2 ^ r) / BB * BB ^ (i + q + 1)) :
    V2 = x % BB ^ (i + 1) * (BB ^ q * 2 ^ r) := by
  rw [mod_succ, Nat.add_mul, h2]
  have e := Nat.div_add_mod (dg x i * 2 ^ r) BB
  have e2 : dg x i * BB ^ i * (BB ^ q * 2 ^ r) = (dg x i * 2 ^ r) * BB ^ (i + q) := by
    rw [Nat.pow_add]; simp only [Nat.mul_assoc, Nat.mul_comm, Nat.mul_left_comm]
  rw [e2, Nat.pow_succ]
  generalize dg x i * 2 ^ r = S at *
  have e3 : S * BB ^ (i + q) = (BB * (S / BB) + S % BB) * BB ^ (i + q) := by rw [e]
  rw [e3, ← hv]
  generalize S / BB = a at *
  generalize S % BB = b at *
  generalize BB ^ (i + q) = Q at *
  rw [Nat.add_mul] at h1 ⊢
  rw [show a * (Q * BB) = BB * a * Q by simp only [Nat.mul_assoc, Nat.mul_comm, Nat.mul_left_comm]]
  generalize BB * a * Q = z at *
  omega

end Go.Proofs.Ytmmcnjoeepgpgaa

/- The walk of the reference's ShiftDown. -/
namespace Go.Proofs.Ytmmcnjoeepgpgaa
open Go.RowKit
set_option linter.unusedSimpArgs false
set_option linter.unusedVariables false

/-- Not 0. -/
def nz (x : Nat) : Bool := !(x == 0)
theorem nz_t {x : Nat} (h : x ≠ 0) : nz x = true := by simp [nz, h]
theorem nz_f {x : Nat} (h : x = 0) : nz x = false := by simp [nz, h]
theorem nz_iff {x : Nat} : nz x = true ↔ x ≠ 0 := by simp [nz]

/-- It returns digits and a Bool. -/
def D2Ret (z : Nat) (l : Bool) (w : World) (e : Ending) (w' : World) : Prop := ∃ a c, e = .returned (.tuple #[.slice a (nd z) c, .bool l]) ∧ nd z ≤ c ∧ Dgs w' a z ∧ Below w.heap.size w w' ∧ ∀ b o v, a = some ⟨b, o, v⟩ → w.heap.size ≤ b

theorem dn_dig (x q r i : Nat) (hr : r < 32) : (dg x (i + q) + dg x (i + q + 1) * BB) / 2 ^ r % BB = dg (x / 2 ^ (32 * q + r)) i := by
  have e : BB = 2 ^ r * 2 ^ (32 - r) := by rw [← Nat.pow_add, show r + (32 - r) = 32 by omega]
  have h1 : dg x (i + q) + dg x (i + q + 1) * BB = x / BB ^ (i + q) % (2 ^ r * (2 ^ (32 - r) * BB)) := by
    rw [← Nat.mul_assoc, ← e]
    have := Nat.mod_mul (x := x / BB ^ (i + q)) (a := BB) (b := BB)
    rw [this]
    unfold dg
    rw [Nat.pow_succ, Nat.div_div_eq_div_mul, Nat.mul_comm BB (_ % BB)]
  rw [h1, Nat.mod_mul_right_div_self, Nat.mod_mod_of_dvd _ (Nat.dvd_mul_left _ _)]
  unfold dg
  rw [Nat.div_div_eq_div_mul, Nat.div_div_eq_div_mul]
  congr 2
  rw [Nat.pow_add, Nat.pow_add 2, BB_pow q]
  simp only [Nat.mul_assoc, Nat.mul_comm, Nat.mul_left_comm]

theorem dn_low (x q r : Nat) (hr : r < 32) : x % 2 ^ (32 * q + r) = x % BB ^ q + BB ^ q * (dg x q % 2 ^ r) := by
  rw [Nat.pow_add, ← BB_pow, Nat.mod_mul]
  unfold dg
  rw [Nat.mod_mod_of_dvd _ (by rw [show BB = 2 ^ 32 from rfl]; exact Nat.pow_dvd_pow 2 (by omega))]

theorem dn_lost (x q r : Nat) (hr : r < 32) (h : x % BB ^ q = 0) : nz (x % 2 ^ (32 * q + r)) = nz (dg x q % 2 ^ r) := by
  rw [dn_low x q r hr, h, Nat.zero_add]
  have hb := BB_pos q
  by_cases h0 : dg x q % 2 ^ r = 0
  · rw [h0]; rfl
  · rw [nz_t h0, nz_t (Nat.mul_ne_zero (by omega) h0)]
theorem dn_lost1 (x q r : Nat) (hr : r < 32) (h : x % BB ^ q ≠ 0) : nz (x % 2 ^ (32 * q + r)) = true := by
  rw [dn_low x q r hr]
  generalize BB ^ q * (dg x q % 2 ^ r) = z
  generalize x % BB ^ q = y at *
  exact nz_t (by omega)
theorem lost_step (x i : Nat) (h : x % BB ^ i = 0) : nz (x % BB ^ (i + 1)) = nz (dg x i) := by
  rw [mod_succ, h, Nat.zero_add]
  have hb := BB_pos i
  by_cases h0 : dg x i = 0
  · rw [h0, Nat.zero_mul]
  · rw [nz_t h0, nz_t (Nat.mul_ne_zero h0 (by omega))]
theorem lost_step1 (x i : Nat) (h : x % BB ^ i ≠ 0) : nz (x % BB ^ (i + 1)) = true := by
  rw [mod_succ]
  generalize dg x i * BB ^ i = z
  generalize x % BB ^ i = y at *
  exact nz_t (by omega)
theorem bne_nz (d : Nat) : ((d : Int) != 0) = nz d := by
  by_cases h : d = 0
  · subst h; rfl
  · rw [nz_t h, bne_iff_ne]; omega

theorem Filled.made' (w : World) (k n : Nat) : Filled w ((w.drewN k).alloc (.cells (madeCells #[.int .u64 0] n) 45)) w.heap.size n (fun _ => 0) where
  below := (below_drewN (Below.refl _ _) k).alloc (Nat.le_refl _) _
  own := Nat.le_refl _
  row := (World.rowIs_made (w.drewN k) (.int .u64 0) n 45).congr fun i hi => rfl
  dig := fun j => by decide

theorem Filled.drew {w0 w : World} {b n : Nat} {f : Nat → Nat} (h : Filled w0 w b n f) : Filled w0 w.drew b n f where
  below := h.below.drew
  own := h.own
  row := h.row
  dig := h.dig

theorem ret2_bool {a b : Bool} {v : Value} (h : a = b) : Ending.returned (.tuple #[v, .bool a]) = .returned (.tuple #[v, .bool b]) := by rw [h]

/-- A filled row, trimmed, is handed back beside a Bool. -/
theorem filled_ret2 {w0 w : World} {b n z : Nat} {f : Nat → Nat} {l l' : Bool} (h : Filled w0 w b n f) (hz : vl n f = z) {cp : Nat} (hcp : n ≤ cp) (hl : l = l') : D2Ret z l' w0 (.returned (.tuple #[.slice (some ⟨b, 0, none⟩) (nd z) cp, .bool l])) w := by
  subst hl
  obtain ⟨a, c, h1, h2, h3, h4, h5⟩ := filled_ret h hz hcp
  cases h1
  exact ⟨_, _, rfl, h2, h3, h4, h5⟩

end Go.Proofs.Ytmmcnjoeepgpgaa

/- The walk of the reference's DivDigits. -/
namespace Go.Proofs.Ytmmcnjoeepgpgaa
open Go.RowKit
set_option linter.unusedSimpArgs false
set_option linter.unusedVariables false

theorem bit_dig (x i : Nat) : dg x (i / 32) / 2 ^ (i % 32) % 2 = x / 2 ^ i % 2 := by
  unfold dg
  have e : BB = 2 ^ (i % 32) * 2 ^ (32 - i % 32) := by rw [← Nat.pow_add, show i % 32 + (32 - i % 32) = 32 by omega]
  rw [e, Nat.mod_mul_right_div_self, Nat.mod_mod_of_dvd _ (by rw [show 32 - i % 32 = (31 - i % 32) + 1 by omega, Nat.pow_succ]; exact Nat.dvd_mul_left _ _), Nat.div_div_eq_div_mul, ← e, BB_pow, ← Nat.pow_add, show 32 * (i / 32) + i % 32 = i by omega]

theorem half_bit (x i : Nat) : x / 2 ^ i = 2 * (x / 2 ^ (i + 1)) + x / 2 ^ i % 2 := by
  rw [Nat.pow_succ, ← Nat.div_div_eq_div_mul]
  omega

/-- One bit of the quotient: r is the rest before. -/
theorem div_bit1 (X y b : Nat) (hy : y ≠ 0) (hb : b ≤ 1) (h : y ≤ X % y * 2 + b) : (2 * X + b) % y = X % y * 2 + b - y ∧ (2 * X + b) / y = 2 * (X / y) + 1 := by
  have e := Nat.div_add_mod X y
  have l : X % y < y := Nat.mod_lt _ (by omega)
  generalize X % y = r at *
  generalize X / y = q at *
  have e2 : 2 * X + b = (r * 2 + b - y) + y * (2 * q + 1) := by
    rw [← e, Nat.mul_add, Nat.mul_add, ← Nat.mul_assoc, Nat.mul_comm 2 y, Nat.mul_assoc]; omega
  rw [e2, Nat.add_mul_mod_self_left, Nat.add_mul_div_left _ _ (by omega), Nat.mod_eq_of_lt (by omega), Nat.div_eq_of_lt (by omega)]
  exact ⟨rfl, by omega⟩
theorem div_bit0 (X y b : Nat) (hy : y ≠ 0) (hb : b ≤ 1) (h : ¬ y ≤ X % y * 2 + b) : (2 * X + b) % y = X % y * 2 + b ∧ (2 * X + b) / y = 2 * (X / y) := by
  have e := Nat.div_add_mod X y
  have l : X % y < y := Nat.mod_lt _ (by omega)
  generalize X % y = r at *
  generalize X / y = q at *
  have e2 : 2 * X + b = (r * 2 + b) + y * (2 * q) := by
    rw [← e, Nat.mul_add, ← Nat.mul_assoc, Nat.mul_comm 2 y, Nat.mul_assoc]; omega
  rw [e2, Nat.add_mul_mod_self_left, Nat.add_mul_div_left _ _ (by omega), Nat.mod_eq_of_lt (by omega), Nat.div_eq_of_lt (by omega)]
  exact ⟨rfl, by omega⟩

/-- A bit goes into a row that has none at or below it. -/
theorem row_bit (n i Q : Nat) (f : Nat → Nat) (hf : ∀ j, f j < BB) (hi : i / 32 < n) (hv : vl n f = Q * 2 ^ (i + 1)) :
    f (i / 32) + 2 ^ (i % 32) < 4294967296 ∧ vl n (upd f (i / 32) (f (i / 32) + 2 ^ (i % 32))) = (2 * Q + 1) * 2 ^ i := by
  constructor
  · have h1 := vl_dig (fun j _ => hf j) (i / 32) hi
    rw [hv] at h1
    have e : Q * 2 ^ (i + 1) / BB ^ (i / 32) = Q * 2 ^ (i % 32 + 1) := by
      have : (2:Nat) ^ (i + 1) = 2 ^ (i % 32 + 1) * BB ^ (i / 32) := by rw [BB_pow, ← Nat.pow_add]; congr 1; omega
      rw [this, ← Nat.mul_assoc, Nat.mul_div_cancel _ (BB_pos _)]
    unfold dg at h1
    have e2 : BB = 2 ^ (i % 32 + 1) * 2 ^ (31 - i % 32) := by rw [← Nat.pow_add, show i % 32 + 1 + (31 - i % 32) = 32 by omega]
    rw [e, e2, Nat.mul_comm Q, Nat.mul_mod_mul_left] at h1
    have h2 : Q % 2 ^ (31 - i % 32) + 1 ≤ 2 ^ (31 - i % 32) := Nat.mod_lt _ (Nat.pow_pos (by decide))
    have h3 := Nat.mul_le_mul_left (2 ^ (i % 32 + 1)) h2
    rw [← e2, Nat.mul_add, ← h1, show BB = 4294967296 from rfl, Nat.pow_succ] at h3
    have : 0 < 2 ^ (i % 32) := Nat.pow_pos (by decide)
    omega
  · have h1 := vl_upd f (i / 32) (f (i / 32) + 2 ^ (i % 32)) n hi
    have e : 2 ^ (i % 32) * BB ^ (i / 32) = 2 ^ i := by rw [BB_pow, ← Nat.pow_add]; congr 1; omega
    rw [Nat.add_mul, e, hv] at h1
    rw [Nat.add_mul, Nat.one_mul, Nat.mul_comm 2 Q, Nat.mul_assoc, show 2 * 2 ^ i = 2 ^ (i + 1) by rw [Nat.pow_succ]; omega]
    omega

theorem nd_mono {x y : Nat} (h : x ≤ y) : nd x ≤ nd y := nd_le (Nat.lt_of_le_of_lt h (lt_nd y))
theorem nd_double {x y : Nat} (h : x < 2 * y) : nd x ≤ nd y + 1 := by
  refine nd_le ?_
  have := lt_nd y
  rw [Nat.pow_succ, show BB ^ nd y * BB = BB ^ nd y * 4294967296 from rfl]
  omega

theorem cmp_ge {x y : Nat} (h : y ≤ x) : decide ((0 : Int) ≤ cmpN x y) = true := by
  unfold cmpN; split
  · omega
  · split <;> rfl
theorem cmp_lt {x y : Nat} (h : ¬ y ≤ x) : decide ((0 : Int) ≤ cmpN x y) = false := by
  unfold cmpN; rw [if_pos (by omega)]; rfl

/-- It returns two numbers' digits. -/
def D22Ret (z z' : Nat) (w : World) (e : Ending) (w' : World) : Prop := ∃ a c a' c', e = .returned (.tuple #[.slice a (nd z) c, .slice a' (nd z') c']) ∧ nd z ≤ c ∧ nd z' ≤ c' ∧ Dgs w' a z ∧ Dgs w' a' z' ∧ Below w.heap.size w w' ∧ (∀ b o v, a = some ⟨b, o, v⟩ → w.heap.size ≤ b) ∧ (∀ b o v, a' = some ⟨b, o, v⟩ → w.heap.size ≤ b)

theorem dgs_one (w : World) : Dgs (w.alloc (.cells #[.int .u64 1] 45)) (some ⟨w.heap.size, 0, none⟩) 1 :=
  ⟨(fun e => by cases e), fun b o v e i hi => by
    cases e
    have : nd 1 = 1 := by decide
    rw [this] at hi
    obtain rfl : i = 0 := by omega
    exact ⟨rfl, by simp [go_sem]; rfl⟩⟩

theorem Dgs.setOther {w : World} {a : Option Addr} {x b : Nat} (h : Dgs w a x) (hb : ∀ b1 o v, a = Option.some ⟨b1, o, v⟩ → b < b1) (i : Nat) (v : Value) : Dgs (w.setCell ⟨b, i, none⟩ v) a x :=
  ⟨h.nil, fun b1 o v' e j hj => ⟨(h.cell b1 o v' e j hj).1, by
    have h1 := (h.cell b1 o v' e j hj).2
    have h2 := hb b1 o v' e
    have h3 := World.cell?_of_block (w := w) (w' := w.setCell ⟨b, i, none⟩ v) (a := ⟨b1, o + j, none⟩) (Below.heap_setCell _ _ _ _ (by simp; omega))
    rw [h3, h1]⟩⟩

end Go.Proofs.Ytmmcnjoeepgpgaa

/- The walks of the reference's reals: Digits, Zero, low, both, Of. -/
namespace Go.Proofs.Ytmmcnjoeepgpgaa
open Go.RowKit
set_option linter.unusedSimpArgs false
set_option linter.unusedVariables false

/-- It returns a real. -/
def NRet (s : Bool) (d : Nat) (e : Int) (w : World) (en : Ending) (w' : World) : Prop := ∃ a c, en = .returned (.agg #[.bool s, .slice a (nd d) c, .int .i64 e]) ∧ Dgs w' a d ∧ Below w.heap.size w w'

end Go.Proofs.Ytmmcnjoeepgpgaa

/- The walk of the reference's Of. -/
namespace Go.Proofs.Ytmmcnjoeepgpgaa
open Go.RowKit
set_option linter.unusedSimpArgs false
set_option linter.unusedVariables false

/-- The whole number and the exponent that a float's bits tell. -/
def mnt (u : Nat) : Nat := if mg u < 4503599627370496 then mg u else 4503599627370496 + mg u % 4503599627370496
def exq (u : Nat) : Int := if mg u < 4503599627370496 then -1074 else -1074 + (mg u / 4503599627370496 - 1 : Nat)

theorem and_mant (u : Nat) (hu : F64 u) : bits .and .u64 (u : Int) 4503599627370495 = ((mg u % 4503599627370496 : Nat) : Int) := by
  have := u64_and_nat u 4503599627370495 hu.out (by decide)
  rw [show ((4503599627370495 : Nat) : Int) = 4503599627370495 from rfl] at this
  rw [this]
  show ((u &&& (2 ^ 52 - 1) : Nat) : Int) = _
  rw [Nat.and_two_pow_sub_one_eq_mod]
  unfold mg
  congr 1
  omega
theorem and_exp (u : Nat) (hu : F64 u) : bits .and .u64 ((u : Int) / 4503599627370496) 2047 = ((mg u / 4503599627370496 : Nat) : Int) := by
  have hu := hu.out
  have := u64_and_nat (u / 4503599627370496) 2047 (by omega) (by decide)
  rw [show ((2047 : Nat) : Int) = 2047 from rfl] at this
  rw [show (u : Int) / 4503599627370496 = ((u / 4503599627370496 : Nat) : Int) from rfl, this]
  show ((u / 4503599627370496 &&& (2 ^ 11 - 1) : Nat) : Int) = _
  rw [Nat.and_two_pow_sub_one_eq_mod]
  unfold mg
  congr 1
  omega
theorem ng_dec (u : Nat) (hu : F64 u) : decide ((9223372036854775808 : Int) ≤ u) = ng u := by
  cases h : ng u
  · exact (pos_bits hu h).2
  · exact (neg_bits hu h).2

end Go.Proofs.Ytmmcnjoeepgpgaa

/- The walk of the reference's Times. -/
namespace Go.Proofs.Ytmmcnjoeepgpgaa
open Go.RowKit
set_option linter.unusedSimpArgs false
set_option linter.unusedVariables false

/-- Three boxes are made. -/
theorem below_3 (w : World) (o1 o2 o3 : Obj) : Below w.heap.size w (((w.alloc o1).alloc o2).alloc o3) :=
  (((Below.refl _ _).alloc (Nat.le_refl _) _).alloc (by simp) _).alloc (by simp; omega) _

end Go.Proofs.Ytmmcnjoeepgpgaa

/- The walk of the reference's Plus. -/
namespace Go.Proofs.Ytmmcnjoeepgpgaa
open Go.RowKit
set_option linter.unusedSimpArgs false
set_option linter.unusedVariables false

/-- The exponent of a sum, the digits to it, the sum. -/
def plE (d : Nat) (e : Int) (d' : Nat) (e' : Int) : Int := if d = 0 then e' else if d' = 0 then e else min e e'
def lowN (d : Nat) (e E : Int) : Nat := d * 2 ^ (e - E).toNat
def sumS (s : Bool) (A : Nat) (s' : Bool) (B : Nat) : Bool :=
  if s = s' ∨ A = 0 ∨ B = 0 then (if A = 0 then s' else s) && !(A + B == 0)
  else if A = B then false else if B < A then s else s'
def sumD (s : Bool) (A : Nat) (s' : Bool) (B : Nat) : Nat :=
  if s = s' ∨ A = 0 ∨ B = 0 then A + B else if A = B then 0 else if B < A then A - B else B - A
def sumE (s : Bool) (A : Nat) (s' : Bool) (B : Nat) (E : Int) : Int :=
  if s = s' ∨ A = 0 ∨ B = 0 then E else if A = B then 0 else E

theorem nd_shift (d k n : Nat) (h : nd d + k / 32 + 1 ≤ n) : nd (d * 2 ^ k) ≤ n := by
  refine nd_le ?_
  have h1 := lt_nd d
  have h2 : 2 ^ k ≤ BB ^ (k / 32 + 1) := by rw [BB_pow]; exact Nat.pow_le_pow_right (by decide) (by omega)
  calc d * 2 ^ k < BB ^ nd d * 2 ^ k := Nat.mul_lt_mul_of_pos_right h1 (Nat.pow_pos (by decide))
    _ ≤ BB ^ nd d * BB ^ (k / 32 + 1) := Nat.mul_le_mul_left _ h2
    _ = BB ^ (nd d + k / 32 + 1) := by rw [← Nat.pow_add]; rfl
    _ ≤ BB ^ n := Nat.pow_le_pow_right (by decide) h

/-- Two boxes with reals, and one for the answer. -/
structure PC (w : World) (b : Nat) (s : Bool) (a : Option Addr) (N c : Nat) (e : Int) (s' : Bool) (a' : Option Addr) (N' c' : Nat) (e' : Int) : Prop where
  c0 : w.cell? ⟨b, 0, none⟩ = some (.bool s)
  c1 : w.cell? ⟨b, 1, none⟩ = some (.slice a N c)
  c2 : w.cell? ⟨b, 2, none⟩ = some (.int .i64 e)
  c3 : w.cell? ⟨b + 1, 0, none⟩ = some (.bool s')
  c4 : w.cell? ⟨b + 1, 1, none⟩ = some (.slice a' N' c')
  c5 : w.cell? ⟨b + 1, 2, none⟩ = some (.int .i64 e')
  r0 : w.cell? ⟨b + 1 + 1, 0, none⟩ = some (.bool false)
  r1 : w.cell? ⟨b + 1 + 1, 1, none⟩ = some (.slice none 0 0)
  r2 : w.cell? ⟨b + 1 + 1, 2, none⟩ = some (.int .i64 0)
  f0 : ∀ o, w.frozen? ⟨b + 1 + 1, o, none⟩ = false
  sz : b + 1 + 1 < w.heap.size

theorem PC.below {w w' : World} {b : Nat} {s : Bool} {a : Option Addr} {N c : Nat} {e : Int} {s' : Bool} {a' : Option Addr} {N' c' : Nat} {e' : Int} (h : PC w b s a N c e s' a' N' c' e') (hb : Below w.heap.size w w') : PC w' b s a N c e s' a' N' c' e' := by
  have hs := h.sz
  have k0 := cellb hb b (by omega)
  have k1 := cellb hb (b + 1) (by omega)
  have k2 := cellb hb (b + 1 + 1) (by omega)
  exact ⟨(k0.1 _).trans h.c0, (k0.1 _).trans h.c1, (k0.1 _).trans h.c2, (k1.1 _).trans h.c3, (k1.1 _).trans h.c4, (k1.1 _).trans h.c5, (k2.1 _).trans h.r0, (k2.1 _).trans h.r1, (k2.1 _).trans h.r2, fun o => (k2.2 o).trans (h.f0 o), Nat.lt_of_lt_of_le h.sz hb.size⟩




end Go.Proofs.Ytmmcnjoeepgpgaa

/- The walk of the reference's Plus, where digits are taken away. -/
namespace Go.Proofs.Ytmmcnjoeepgpgaa
open Go.RowKit
set_option linter.unusedSimpArgs false
set_option linter.unusedVariables false

theorem PC.drewN {w : World} {b : Nat} {s : Bool} {a : Option Addr} {N c : Nat} {e : Int} {s' : Bool} {a' : Option Addr} {N' c' : Nat} {e' : Int} (h : PC w b s a N c e s' a' N' c' e') (k : Nat) : PC (w.drewN k) b s a N c e s' a' N' c' e' :=
  ⟨h.c0, h.c1, h.c2, h.c3, h.c4, h.c5, h.r0, h.r1, h.r2, h.f0, h.sz⟩

theorem PC.drew {w : World} {b : Nat} {s : Bool} {a : Option Addr} {N c : Nat} {e : Int} {s' : Bool} {a' : Option Addr} {N' c' : Nat} {e' : Int} (h : PC w b s a N c e s' a' N' c' e') : PC w.drew b s a N c e s' a' N' c' e' :=
  ⟨h.c0, h.c1, h.c2, h.c3, h.c4, h.c5, h.r0, h.r1, h.r2, h.f0, h.sz⟩

theorem cmpN_eq {x y : Nat} (h : x = y) : cmpN x y = 0 := by unfold cmpN; rw [if_neg (by omega), if_neg (by omega)]
theorem cmpN_gt {x y : Nat} (h : y < x) : cmpN x y = 1 := by unfold cmpN; rw [if_neg (by omega), if_pos h]
theorem cmpN_lt {x y : Nat} (h : x < y) : cmpN x y = -1 := by unfold cmpN; rw [if_pos h]



end Go.Proofs.Ytmmcnjoeepgpgaa
