/- Put together out of several texts: Pl Fl Fop Pm Ie Fr Or Ho Is Nz. -/
import Derived.Laws.BitsAllLaws
import Derived.Laws.FloatArith
import Derived.Test.YteikihidblcljaaProg
import Derived.WalkKit
import Derived.WalkSpells
import Derived.WalkLawsBesides
import Derived.Deep.Draws
import Derived.Laws.Wrap64
import Derived.RowKit
import Derived.KernelRfl
import Derived.BigQuiet

/- Plain facts about a float64's bits: its sign, its size, its class, its rank. No program. -/
namespace Go.Proofs.Yteikihidblcljaa

/-- A fact that the walk does not take for a rule. -/
structure Hd (p : Prop) : Prop where
  out : p

/-- The bits of a float64 fit in 64. -/
structure F64 (x : Nat) : Prop where
  out : x < 18446744073709551616
/-- The bits without the sign. -/
def mg (x : Nat) : Nat := x % 9223372036854775808
/-- The sign bit. -/
def ng (x : Nat) : Bool := decide (9223372036854775808 ≤ x)
def INF : Nat := 9218868437227405312
/-- Is it a NaN? -/
def nn (x : Nat) : Bool := decide (INF < mg x)
/-- Is it a number? -/
def fin (x : Nat) : Bool := decide (mg x < INF)
def cls (x : Nat) : Int := if mg x = 0 then 1 else if mg x < 4503599627370496 then 2 else if mg x < INF then 3 else if mg x = INF then 4 else 5
def rk (x : Nat) : Int := if ng x then -(mg x : Int) else mg x
/-- The float of a rank. -/
def atk (n : Int) : Nat := if n < 0 then n.natAbs + 9223372036854775808 else n.toNat

theorem mg_lt (x : Nat) : mg x < 9223372036854775808 := Nat.mod_lt _ (by decide)
theorem INF_lt : INF < 9223372036854775808 := by decide

theorem bits_mg (x : Nat) (h : F64 x) : bits .andNot .u64 (x : Int) 9223372036854775808 = ((mg x : Nat) : Int) := by
  have := u64_andNot_nat x 9223372036854775808 h.out (by decide)
  rw [show ((9223372036854775808 : Nat) : Int) = 9223372036854775808 from rfl] at this
  rw [this]
  show ((x &&& (2 ^ 63 - 1) : Nat) : Int) = _
  rw [Nat.and_two_pow_sub_one_eq_mod]
  rfl

theorem ng_div (x : Nat) (h : F64 x) : ((x : Int) / 9223372036854775808 == 1) = ng x := by
  have h := h.out; unfold ng
  rw [Bool.eq_iff_iff]; simp; omega

theorem cls_nan (x : Nat) : (cls x == 5) = nn x := by
  unfold cls nn INF
  have := mg_lt x
  rw [Bool.eq_iff_iff]
  repeat' split
  all_goals simp; try omega

theorem cls_nan' (x : Nat) : (cls x != 5) = !nn x := by
  rw [bne, cls_nan]

theorem cls_fin (x : Nat) : decide (cls x < 4) = fin x := by
  unfold cls fin INF
  rw [Bool.eq_iff_iff]
  repeat' split
  all_goals simp; try omega

theorem cls_bd (x : Nat) : 1 ≤ cls x ∧ cls x ≤ 5 := by
  unfold cls; repeat' split
  all_goals omega

theorem rk_bd (x : Nat) (h : nn x = false) : -9218868437227405312 ≤ rk x ∧ rk x ≤ 9218868437227405312 := by
  unfold nn INF at h; simp at h; unfold rk; split <;> omega

theorem nn_fin (x : Nat) (h : fin x = true) : nn x = false := by
  unfold fin at h; unfold nn; simp at *; omega

theorem atk_F64 (n : Int) (h : -9218868437227405312 ≤ n) (h' : n ≤ 9218868437227405312) : F64 (atk n) := by
  constructor; unfold atk; split <;> omega

theorem mg_atk (n : Int) (h : -9218868437227405312 ≤ n) (h' : n ≤ 9218868437227405312) : mg (atk n) = n.natAbs := by
  unfold mg atk; split <;> omega

theorem rk_atk (n : Int) (h : -9218868437227405312 ≤ n) (h' : n ≤ 9218868437227405312) : rk (atk n) = n := by
  unfold rk; rw [mg_atk n h h']; unfold ng atk
  split <;> split at * <;> simp at * <;> omega

theorem nn_atk (n : Int) (h : -9218868437227405312 ≤ n) (h' : n ≤ 9218868437227405312) : nn (atk n) = false := by
  unfold nn; rw [mg_atk n h h']; unfold INF; simp; omega

theorem rk_of_pos {x : Nat} (h : ng x = false) : rk x = mg x := by unfold rk; rw [if_neg (by simp [h])]
theorem rk_of_neg {x : Nat} (h : ng x = true) : rk x = -(mg x : Int) := by unfold rk; rw [if_pos h]

theorem atk_pos {n : Int} (h : 0 ≤ n) : n.toNat = atk n := by unfold atk; rw [if_neg (by omega)]
theorem atk_neg {n : Int} (h : n < 0) (h' : -9218868437227405312 ≤ n) : (bits .or .u64 (-n) 9223372036854775808).toNat = atk n := by
  obtain ⟨k, rfl⟩ : ∃ k : Nat, n = -(k : Int) := ⟨n.natAbs, by omega⟩
  have h1 : k < 9223372036854775808 := by omega
  rw [Int.neg_neg, show (9223372036854775808 : Int) = ((9223372036854775808 : Nat) : Int) from rfl, u64_or_nat k 9223372036854775808 (by omega) (by decide)]
  unfold atk; rw [if_pos h, Int.toNat_natCast, Nat.or_comm, nat_join 63 9223372036854775808 k (by decide) h1]
  simp; omega

theorem cls_ways (x : Nat) :
    (((mg x : Int) == 0) = true ∧ Hd (1 = cls x)) ∨
    (((mg x : Int) == 0) = false ∧ (mg x : Int) < 4503599627370496 ∧ Hd (2 = cls x)) ∨
    (((mg x : Int) == 0) = false ∧ decide ((mg x : Int) < 4503599627370496) = false ∧ (mg x : Int) < 9218868437227405312 ∧ Hd (3 = cls x)) ∨
    (((mg x : Int) == 0) = false ∧ decide ((mg x : Int) < 4503599627370496) = false ∧ decide ((mg x : Int) < 9218868437227405312) = false ∧ ((mg x : Int) == 9218868437227405312) = true ∧ Hd (4 = cls x)) ∨
    (((mg x : Int) == 0) = false ∧ decide ((mg x : Int) < 4503599627370496) = false ∧ decide ((mg x : Int) < 9218868437227405312) = false ∧ ((mg x : Int) == 9218868437227405312) = false ∧ Hd (5 = cls x)) := by
  unfold cls INF
  by_cases h0 : mg x = 0
  · exact Or.inl ⟨by simp [h0], ⟨by rw [if_pos h0]⟩⟩
  have g0 : ((mg x : Int) == 0) = false := by simp [h0]
  by_cases h1 : mg x < 4503599627370496
  · exact Or.inr (Or.inl ⟨g0, by omega, ⟨by rw [if_neg h0, if_pos h1]⟩⟩)
  by_cases h2 : mg x < 9218868437227405312
  · exact Or.inr (Or.inr (Or.inl ⟨g0, by simp; omega, by omega, ⟨by rw [if_neg h0, if_neg h1, if_pos h2]⟩⟩))
  by_cases h3 : mg x = 9218868437227405312
  · exact Or.inr (Or.inr (Or.inr (Or.inl ⟨g0, by simp; omega, by simp; omega, by rw [beq_iff_eq]; omega, ⟨by rw [if_neg h0, if_neg h1, if_neg h2, if_pos h3]⟩⟩)))
  · exact Or.inr (Or.inr (Or.inr (Or.inr ⟨g0, by simp; omega, by simp; omega, by rw [beq_eq_false_iff_ne]; omega, ⟨by rw [if_neg h0, if_neg h1, if_neg h2, if_neg h3]⟩⟩)))

attribute [irreducible] mg ng INF nn fin cls rk atk

end Go.Proofs.Yteikihidblcljaa

/- Plain: floats of which all NaNs are one; an operation does not hang on which NaN it is handed. No program. -/
namespace Go.Proofs.Yteikihidblcljaa

abbrev dbl : Ieee.Format := Ieee.double
def NaNc : Nat := 9221120237041090561
/-- All NaNs are one. -/
def cn (x : Nat) : Nat := if nn x then NaNc else x
def fadd (x y : Nat) : Nat := (dbl.add x y).getD NaNc
def fsub (x y : Nat) : Nat := (dbl.sub x y).getD NaNc
def fmul (x y : Nat) : Nat := (dbl.mul x y).getD NaNc
def fdiv (x y : Nat) : Nat := (dbl.div x y).getD NaNc

theorem dbl_sw : dbl.signWeight = 9223372036854775808 := by decide
theorem dbl_inf : dbl.infRung = 9218868437227405312 := by decide
theorem dbl_bin : dbl.binade = 4503599627370496 := by decide
theorem dbl_lp : dbl.leastPlace = -1074 := by decide

theorem ng_of (x : Nat) (h : F64 x) : (x / 9223372036854775808 % 2 == 1) = ng x := by
  have h := h.out; unfold ng
  rw [Bool.eq_iff_iff]; simp; omega

/-- What a word stands for. -/
theorem read_eq (x : Nat) (h : F64 x) : dbl.read x =
    if mg x < 4503599627370496 then .number (ng x) (mg x) (-1074)
    else if mg x < INF then .number (ng x) (4503599627370496 + mg x % 4503599627370496) (-1074 + (mg x / 4503599627370496 - 1 : Nat))
    else if mg x = INF then .infinity (ng x) else .nan (ng x) (mg x - INF) := by
  unfold Ieee.Format.read
  simp only [dbl_sw, dbl_inf, dbl_bin, dbl_lp, ng_of x h]
  unfold mg INF
  rfl

theorem read_nan (x : Nat) (h : F64 x) (hn : nn x = true) : ∃ s t, dbl.read x = .nan s t := by
  rw [read_eq x h]
  unfold nn INF at hn; simp at hn
  unfold INF
  exact ⟨_, _, by rw [if_neg (by omega), if_neg (by omega), if_neg (by omega)]⟩

theorem F64_NaNc : F64 NaNc := ⟨by decide⟩
theorem nn_NaNc : nn NaNc = true := by unfold nn mg INF NaNc; decide
theorem F64_cn (x : Nat) (h : F64 x) : F64 (cn x) := by
  unfold cn; split
  · exact F64_NaNc
  · exact h
theorem nn_cn (x : Nat) : nn (cn x) = nn x := by
  unfold cn; split
  · rename_i h; rw [h]; exact nn_NaNc
  · rfl
theorem cn_of (x : Nat) (h : nn x = false) : cn x = x := by unfold cn; rw [h]; rfl
theorem cn_nan (x : Nat) (h : nn x = true) : cn x = NaNc := by unfold cn; rw [h]; rfl
theorem cn_cn (x : Nat) : cn (cn x) = cn x := by
  by_cases h : nn x = true
  · rw [cn_nan x h, cn_nan _ nn_NaNc]
  · have h : nn x = false := by simpa using h
    rw [cn_of x h, cn_of x h]

/-- What is written of a number is no NaN. -/
theorem nearest_nn (s : Bool) (m : Nat) (e : Int) : nn (dbl.nearest s m e) = false := by
  have key : ∀ r, r ≤ 9218868437227405312 → nn (dbl.word s r) = false := by
    intro r hr
    unfold nn mg INF Ieee.Format.word
    rw [dbl_sw]; simp only [decide_eq_false_iff_not]; split <;> omega
  unfold Ieee.Format.nearest
  dsimp only
  split
  · exact key 0 (by decide)
  · rw [dbl_inf]; exact key _ (Nat.min_le_right _ _)

theorem inf_nn (s : Bool) : nn (dbl.write (.infinity s)) = false := by
  unfold nn mg INF; cases s <;> decide

theorem nn_sum (a b d : Ieee.Datum) (h : a.sum b = some d) : nn (dbl.write d) = false := by
  unfold Ieee.Datum.sum at h
  split at h <;> first | (cases h; done) | skip
  · split at h <;> simp at h; subst h; exact inf_nn _
  · simp at h; subst h; exact inf_nn _
  · simp at h; subst h; exact inf_nn _
  · simp at h; subst h; exact nearest_nn _ _ _
theorem nn_product (a b d : Ieee.Datum) (h : a.product b = some d) : nn (dbl.write d) = false := by
  unfold Ieee.Datum.product at h
  split at h <;> first | (cases h; done) | skip
  · simp at h; subst h; exact inf_nn _
  · split at h <;> simp at h; subst h; exact inf_nn _
  · split at h <;> simp at h; subst h; exact inf_nn _
  · simp at h; subst h; exact nearest_nn _ _ _
theorem nn_quotient (k : Nat) (a b d : Ieee.Datum) (h : a.quotient k b = some d) : nn (dbl.write d) = false := by
  unfold Ieee.Datum.quotient at h
  split at h <;> first | (cases h; done) | skip
  · simp at h; subst h; exact inf_nn _
  · simp at h; subst h; exact nearest_nn _ _ _
  · split at h
    · split at h <;> simp at h; subst h; exact inf_nn _
    · simp at h; subst h; exact nearest_nn _ _ _

theorem nn_add {x y r : Nat} (h : dbl.add x y = some r) : nn r = false := by
  unfold Ieee.Format.add at h
  obtain ⟨d, hd, rfl⟩ := Option.map_eq_some_iff.1 h
  exact nn_sum _ _ _ hd
theorem nn_sub {x y r : Nat} (h : dbl.sub x y = some r) : nn r = false := by
  unfold Ieee.Format.sub at h
  obtain ⟨d, hd, rfl⟩ := Option.map_eq_some_iff.1 h
  exact nn_sum _ _ _ hd
theorem nn_mul {x y r : Nat} (h : dbl.mul x y = some r) : nn r = false := by
  unfold Ieee.Format.mul at h
  obtain ⟨d, hd, rfl⟩ := Option.map_eq_some_iff.1 h
  exact nn_product _ _ _ hd
theorem nn_div {x y r : Nat} (h : dbl.div x y = some r) : nn r = false := by
  unfold Ieee.Format.div at h
  obtain ⟨d, hd, rfl⟩ := Option.map_eq_some_iff.1 h
  exact nn_quotient _ _ _ _ hd

/-- Of a NaN only that it is one is asked. -/
theorem read_cn (x : Nat) (h : F64 x) : dbl.read (cn x) = dbl.read x ∨ (∃ s t s' t', dbl.read (cn x) = .nan s t ∧ dbl.read x = .nan s' t') := by
  by_cases hn : nn x = true
  · right
    obtain ⟨s, t, h1⟩ := read_nan (cn x) (F64_cn x h) (by rw [nn_cn]; exact hn)
    obtain ⟨s', t', h2⟩ := read_nan x h hn
    exact ⟨s, t, s', t', h1, h2⟩
  · left; rw [cn_of x (by simpa using hn)]

theorem sum_nan_l (s : Bool) (t : Nat) (d : Ieee.Datum) : (Ieee.Datum.nan s t).sum d = none := by cases d <;> rfl
theorem sum_nan_r (s : Bool) (t : Nat) (d : Ieee.Datum) : d.sum (.nan s t) = none := by cases d <;> rfl
theorem product_nan_l (s : Bool) (t : Nat) (d : Ieee.Datum) : (Ieee.Datum.nan s t).product d = none := by cases d <;> rfl
theorem product_nan_r (s : Bool) (t : Nat) (d : Ieee.Datum) : d.product (.nan s t) = none := by cases d <;> rfl
theorem quotient_nan_l (k : Nat) (s : Bool) (t : Nat) (d : Ieee.Datum) : (Ieee.Datum.nan s t).quotient k d = none := by cases d <;> rfl
theorem quotient_nan_r (k : Nat) (s : Bool) (t : Nat) (d : Ieee.Datum) : d.quotient k (.nan s t) = none := by cases d <;> rfl

theorem add_cn (x y : Nat) (hx : F64 x) (hy : F64 y) : dbl.add (cn x) (cn y) = dbl.add x y := by
  unfold Ieee.Format.add
  rcases read_cn x hx with h | ⟨_, _, _, _, h1, h2⟩
  · rw [h]
    rcases read_cn y hy with h' | ⟨_, _, _, _, h1', h2'⟩
    · rw [h']
    · rw [h1', h2', sum_nan_r, sum_nan_r]
  · rw [h1, h2, sum_nan_l, sum_nan_l]
theorem sub_cn (x y : Nat) (hx : F64 x) (hy : F64 y) : dbl.sub (cn x) (cn y) = dbl.sub x y := by
  unfold Ieee.Format.sub
  rcases read_cn x hx with h | ⟨_, _, _, _, h1, h2⟩
  · rw [h]
    rcases read_cn y hy with h' | ⟨_, _, _, _, h1', h2'⟩
    · rw [h']
    · rw [h1', h2']; simp only [Ieee.Datum.opposite]; rw [sum_nan_r, sum_nan_r]
  · rw [h1, h2, sum_nan_l, sum_nan_l]
theorem mul_cn (x y : Nat) (hx : F64 x) (hy : F64 y) : dbl.mul (cn x) (cn y) = dbl.mul x y := by
  unfold Ieee.Format.mul
  rcases read_cn x hx with h | ⟨_, _, _, _, h1, h2⟩
  · rw [h]
    rcases read_cn y hy with h' | ⟨_, _, _, _, h1', h2'⟩
    · rw [h']
    · rw [h1', h2', product_nan_r, product_nan_r]
  · rw [h1, h2, product_nan_l, product_nan_l]
theorem div_cn (x y : Nat) (hx : F64 x) (hy : F64 y) : dbl.div (cn x) (cn y) = dbl.div x y := by
  unfold Ieee.Format.div
  rcases read_cn x hx with h | ⟨_, _, _, _, h1, h2⟩
  · rw [h]
    rcases read_cn y hy with h' | ⟨_, _, _, _, h1', h2'⟩
    · rw [h']
    · rw [h1', h2', quotient_nan_r, quotient_nan_r]
  · rw [h1, h2, quotient_nan_l, quotient_nan_l]

theorem F64_of_lt {r : Nat} (h : r < 2 ^ dbl.width) : F64 r := ⟨h⟩
theorem F64_fadd (x y : Nat) : F64 (fadd x y) := by
  unfold fadd; cases h : dbl.add x y with
  | none => exact F64_NaNc
  | some r => exact F64_of_lt (dbl.add_lt h)
theorem F64_fsub (x y : Nat) : F64 (fsub x y) := by
  unfold fsub; cases h : dbl.sub x y with
  | none => exact F64_NaNc
  | some r => exact F64_of_lt (dbl.sub_lt h)
theorem F64_fmul (x y : Nat) : F64 (fmul x y) := by
  unfold fmul; cases h : dbl.mul x y with
  | none => exact F64_NaNc
  | some r => exact F64_of_lt (dbl.mul_lt h)
theorem F64_fdiv (x y : Nat) : F64 (fdiv x y) := by
  unfold fdiv; cases h : dbl.div x y with
  | none => exact F64_NaNc
  | some r => exact F64_of_lt (dbl.div_lt h)

end Go.Proofs.Yteikihidblcljaa

/- Floats: what an operation gives, whatever its operands: the result's bits and how often the tape was asked. -/
namespace Go.Proofs.Yteikihidblcljaa
open Go.RowKit

/-- The bits of the result: those that IEEE 754 names, else those of the NaN that the tape gives. -/
def fres (op : BinOp) (x y : Nat) (w : World) : Nat :=
  match floatBits op .f64 x y with
  | some r => r
  | none => (Question.nanBits .f64 x y).cut (w.tape w.drawn (.nanBits .f64 x y))

/-- How often the tape is asked. -/
def fcnt (op : BinOp) (x y : Nat) : Nat :=
  match floatBits op .f64 x y with
  | some _ => 0
  | none => 1

theorem run_fop {P : Program} (op : BinOp) (hop : op = .add ∨ op = .sub ∨ op = .mul ∨ op = .quo) (t : TypeId) (x y : Nat) (w : World) :
    (binOp op t (.float .f64 x) (.float .f64 y)).run P w = .ok (.float .f64 (fres op x y w)) (w.drewN (fcnt op x y)) := by
  rcases hop with rfl | rfl | rfl | rfl <;>
  · unfold fres fcnt
    split
    · rename_i r h
      rw [run_float_arith w _ t .f64 x y r h]
      rfl
    · rename_i h
      simp only [floatBits] at h
      simp only [binOp, Op.floatArith, ne_eq, not_true_eq_false, if_false, pure, bind, Sem.bind, h]
      rfl

@[go_sem] theorem run_fadd {P : Program} (t : TypeId) (x y : Nat) (w : World) :
    (binOp .add t (.float .f64 x) (.float .f64 y)).run P w = .ok (.float .f64 (fres .add x y w)) (w.drewN (fcnt .add x y)) := run_fop .add (by simp) t x y w
@[go_sem] theorem run_fsub {P : Program} (t : TypeId) (x y : Nat) (w : World) :
    (binOp .sub t (.float .f64 x) (.float .f64 y)).run P w = .ok (.float .f64 (fres .sub x y w)) (w.drewN (fcnt .sub x y)) := run_fop .sub (by simp) t x y w
@[go_sem] theorem run_fmul {P : Program} (t : TypeId) (x y : Nat) (w : World) :
    (binOp .mul t (.float .f64 x) (.float .f64 y)).run P w = .ok (.float .f64 (fres .mul x y w)) (w.drewN (fcnt .mul x y)) := run_fop .mul (by simp) t x y w
@[go_sem] theorem run_fquo {P : Program} (t : TypeId) (x y : Nat) (w : World) :
    (binOp .quo t (.float .f64 x) (.float .f64 y)).run P w = .ok (.float .f64 (fres .quo x y w)) (w.drewN (fcnt .quo x y)) := run_fop .quo (by simp) t x y w

end Go.Proofs.Yteikihidblcljaa

/- Plain: the middle of two whole numbers by their bits. No program. -/
namespace Go.Proofs.Yteikihidblcljaa
open Go.RowKit

theorem nat_add_bits : ∀ n x y : Nat, x ≤ n → x + y = 2 * (x &&& y) + (x ^^^ y) := by
  intro n
  induction n with
  | zero => intro x y h; obtain rfl : x = 0 := by omega
            simp
  | succ n ih =>
    intro x y h
    by_cases h0 : x = 0
    · subst h0; simp
    have h1 := ih (x / 2) (y / 2) (by omega)
    have a1 : (x &&& y) / 2 = x / 2 &&& y / 2 := Nat.and_div_two
    have a2 : (x ^^^ y) / 2 = x / 2 ^^^ y / 2 := Nat.xor_div_two
    have b1 : (x &&& y) % 2 = (x % 2) * (y % 2) := by
      have := Nat.and_mod_two_pow (a := x) (b := y) (n := 1)
      simp only [Nat.pow_one] at this
      rw [this]
      rcases Nat.mod_two_eq_zero_or_one x with h | h <;> rcases Nat.mod_two_eq_zero_or_one y with h' | h' <;> simp [h, h']
    have b2 : (x ^^^ y) % 2 = (x % 2 + y % 2) % 2 := by
      have := Nat.xor_mod_two_pow (a := x) (b := y) (n := 1)
      simp only [Nat.pow_one] at this
      rw [this]
      rcases Nat.mod_two_eq_zero_or_one x with h | h <;> rcases Nat.mod_two_eq_zero_or_one y with h' | h' <;> simp [h, h']
    rw [← a1, ← a2] at h1
    rcases Nat.mod_two_eq_zero_or_one x with h | h <;> rcases Nat.mod_two_eq_zero_or_one y with h' | h' <;> rw [h, h'] at b1 b2 <;> omega

theorem wrap_toInt (v : BitVec 64) : IntKind.i64.wrap (v.toNat : Int) = v.toInt := by
  have h := v.isLt
  rw [BitVec.toInt_eq_toNat_cond]
  have e : IntKind.i64.wrap (v.toNat : Int) = if (v.toNat : Int) % 18446744073709551616 ≥ 9223372036854775808 then (v.toNat : Int) % 18446744073709551616 - 18446744073709551616 else (v.toNat : Int) % 18446744073709551616 := by
    simp [IntKind.wrap, IntKind.bits, IntKind.signed]
  rw [e]
  split <;> split <;> omega

theorem bits_and_i64 (a b : Int) : bits .and .i64 a b = (BitVec.ofInt 64 a &&& BitVec.ofInt 64 b).toInt := wrap_toInt _
theorem bits_xor_i64 (a b : Int) : bits .xor .i64 a b = (BitVec.ofInt 64 a ^^^ BitVec.ofInt 64 b).toInt := wrap_toInt _

theorem msb_toInt (a : BitVec 64) : a.toInt = (a.toNat : Int) - (if a.msb then 18446744073709551616 else 0) := by
  rw [BitVec.toInt_eq_msb_cond]
  split <;> simp

theorem bv_mid (a b : BitVec 64) : a.toInt + b.toInt = 2 * (a &&& b).toInt + (a ^^^ b).toInt := by
  have h := nat_add_bits a.toNat a.toNat b.toNat (Nat.le_refl _)
  rw [← BitVec.toNat_and, ← BitVec.toNat_xor] at h
  rw [msb_toInt a, msb_toInt b, msb_toInt (a &&& b), msb_toInt (a ^^^ b), BitVec.msb_and, BitVec.msb_xor]
  generalize (a &&& b).toNat = c at *
  generalize (a ^^^ b).toNat = d at *
  cases a.msb <;> cases b.msb <;> simp <;> omega

theorem mid64 (a b : Int) (ha : -9223372036854775808 ≤ a) (ha' : a ≤ 9223372036854775807) (hb : -9223372036854775808 ≤ b) (hb' : b ≤ 9223372036854775807) :
    wrap64 (bits .and .i64 a b + bits .xor .i64 a b / 2) = (a + b) / 2 := by
  have h := bv_mid (BitVec.ofInt 64 a) (BitVec.ofInt 64 b)
  rw [← bits_and_i64, ← bits_xor_i64, BitVec.toInt_ofInt, BitVec.toInt_ofInt] at h
  rw [Int.bmod_eq_of_le (by omega) (by omega), Int.bmod_eq_of_le (by omega) (by omega)] at h
  unfold wrap64
  omega
theorem and_one64 (a b : Int) : bits .and .i64 (bits .and .i64 a b) 1 = (a % 2) * (b % 2) := by
  rw [bits_and_i64 a b, bits_and_i64, BitVec.ofInt_toInt]
  have e : (BitVec.ofInt 64 a &&& BitVec.ofInt 64 b &&& BitVec.ofInt 64 1).toNat = ((BitVec.ofInt 64 a).toNat % 2) * ((BitVec.ofInt 64 b).toNat % 2) := by
    rw [BitVec.toNat_and, BitVec.toNat_and, show (BitVec.ofInt 64 1).toNat = 1 from rfl, Nat.and_one_is_mod]
    have := Nat.and_mod_two_pow (a := (BitVec.ofInt 64 a).toNat) (b := (BitVec.ofInt 64 b).toNat) (n := 1)
    simp only [Nat.pow_one] at this
    rw [this]
    rcases Nat.mod_two_eq_zero_or_one (BitVec.ofInt 64 a).toNat with h | h <;> rcases Nat.mod_two_eq_zero_or_one (BitVec.ofInt 64 b).toNat with h' | h' <;> rw [h, h'] <;> rfl
  have m : ∀ n : Int, ((BitVec.ofInt 64 n).toNat : Int) % 2 = n % 2 := by
    intro n
    rw [BitVec.toNat_ofInt]
    have : ((2 ^ 64 : Nat) : Int) = 18446744073709551616 := rfl
    omega
  have h := msb_toInt (BitVec.ofInt 64 a &&& BitVec.ofInt 64 b &&& BitVec.ofInt 64 1)
  rw [BitVec.msb_and, show (BitVec.ofInt 64 1).msb = false from rfl, Bool.and_false, e] at h
  rw [h]
  have ha := m a
  have hb := m b
  generalize (BitVec.ofInt 64 a).toNat = x at *
  generalize (BitVec.ofInt 64 b).toNat = y at *
  have hx : ((x % 2 : Nat) : Int) = a % 2 := by omega
  have hy : ((y % 2 : Nat) : Int) = b % 2 := by omega
  rw [Int.natCast_mul, hx, hy]
  simp

theorem rmid64 (a b : Int) (ha : -9223372036854775808 ≤ a) (ha' : a ≤ 9223372036854775807) (hb : -9223372036854775808 ≤ b) (hb' : b ≤ 9223372036854775807) :
    wrap64 (wrap64 (a / 2 + b / 2) + bits .and .i64 (bits .and .i64 a b) 1) = (a + b) / 2 := by
  rw [and_one64]
  unfold wrap64
  rcases Int.emod_two_eq a with h | h <;> rcases Int.emod_two_eq b with h' | h' <;> rw [h, h'] <;> omega

end Go.Proofs.Yteikihidblcljaa

/- The walks of package ieee's small functions. -/
namespace Go.Proofs.Yteikihidblcljaa
open Go.RowKit

@[go_sem] theorem run_f64bits (x : Nat) (w : World) : (callFunc 62 #[.float .f64 x]).run Try.prog w = .ok (.value (.int .u64 x)) w := by
  rw [run_callFunc_extern Try.func62 (by kernel_rfl) (by kernel_rfl) (by kernel_rfl) (e := Extern.MathFloatBits.float64bits) (by kernel_rfl)]; rfl
@[go_sem] theorem run_f64from (n : Int) (w : World) : (callFunc 113 #[.int .u64 n]).run Try.prog w = .ok (.value (.float .f64 n.toNat)) w := by
  rw [run_callFunc_extern Try.func113 (by kernel_rfl) (by kernel_rfl) (by kernel_rfl) (e := Extern.MathFloatBits.float64frombits) (by kernel_rfl)]; rfl

theorem ret_int {k : IntKind} {a b : Int} (h : a = b) : Ending.returned (.int k a) = .returned (.int k b) := by rw [h]
theorem ret_bool {a b : Bool} (h : a = b) : Ending.returned (.bool a) = .returned (.bool b) := by rw [h]
theorem ret_float {a b : Nat} (h : a = b) : Ending.returned (.float .f64 a) = .returned (.float .f64 b) := by rw [h]

set_option maxHeartbeats 400000 in
theorem apiBits_any (x : Nat) (w : World) :
    Calls Try.prog 12 #[.float .f64 x] w fun e w' => e = .returned (.int .u64 x) ∧ w = w' := by
  go_enter Try.func12, Try.ntmps12
  go_wp2
  go_ret
  exact ⟨rfl, rfl⟩

set_option maxHeartbeats 400000 in
theorem apiFloat_any (n : Int) (w : World) :
    Calls Try.prog 151 #[.int .u64 n] w fun e w' => e = .returned (.float .f64 n.toNat) ∧ w = w' := by
  go_enter Try.func151, Try.ntmps151
  go_wp2
  go_ret
  exact ⟨rfl, rfl⟩

set_option maxHeartbeats 400000 in
theorem size_any (x : Nat) (hx : F64 x) (w : World) :
    Calls Try.prog 101 #[.float .f64 x] w fun e w' => e = .returned (.int .u64 (mg x)) ∧ w = w' := by
  go_enter Try.func101, Try.ntmps101
  go_wp2
  go_ret
  exact ⟨ret_int (bits_mg x hx), rfl⟩

set_option maxHeartbeats 800000 in
theorem class_any (x : Nat) (hx : F64 x) (w : World) :
    Calls Try.prog 82 #[.float .f64 x] w fun e w' => e = .returned (.int .i64 (cls x)) ∧ w = w' := by
  rcases cls_ways x with ⟨h0, H⟩ | ⟨h0, h1, H⟩ | ⟨h0, h1, h2, H⟩ | ⟨h0, h1, h2, h3, H⟩ | ⟨h0, h1, h2, h3, H⟩ <;>
  · go_enter Try.func82, Try.ntmps82
    go_wp2_with (go_at_call 101; refine (size_any _ hx _).mono ?_; rintro e w' ⟨rfl, rfl⟩)
    go_ret
    exact ⟨ret_int H.out, rfl⟩

theorem nan_of (x : Nat) (b : Bool) (h : nn x = b) : (cls x == 5) = b := (cls_nan x).trans h
theorem nan_of' (x : Nat) (b : Bool) (h : nn x = b) : (cls x != 5) = !b := by rw [bne, nan_of x b h]

set_option maxHeartbeats 800000 in
theorem negative_any (x : Nat) (hx : F64 x) (hn : nn x = false) (w : World) :
    Calls Try.prog 102 #[.float .f64 x] w fun e w' => e = .returned (.bool (ng x)) ∧ w = w' := by
  have h1 : (cls x != 5) = true := nan_of' x _ hn
  have H2 := Hd.mk (ng_div x hx)
  clear hn
  go_enter Try.func102, Try.ntmps102
  go_wp2_with (first | (go_at_call 82; refine (class_any _ hx _).mono ?_; rintro e w' ⟨rfl, rfl⟩) | (go_at_call 12; refine (apiBits_any _ _).mono ?_; rintro e w' ⟨rfl, rfl⟩))
  go_ret
  exact ⟨ret_bool H2.out, rfl⟩

theorem ret2_int {k : IntKind} {a b : Int} {v : Value} (h : a = b) : Ending.returned (.tuple #[.int k a, v]) = .returned (.tuple #[.int k b, v]) := by rw [h]

theorem ret2_float {a b : Nat} {v : Value} (h : a = b) : Ending.returned (.tuple #[.float .f64 a, v]) = .returned (.tuple #[.float .f64 b, v]) := by rw [h]

/-- The float so many ranks on, or x. -/
def stp (x : Nat) (d : Int) : Nat := if nn x then x else if rk x + d < -9218868437227405312 ∨ 9218868437227405312 < rk x + d then x else atk (rk x + d)
theorem stp_1 {x : Nat} {d : Int} (h : nn x = true) : x = stp x d := by unfold stp; rw [if_pos h]
theorem stp_2 {x : Nat} {d : Int} (h : nn x = false) (h2 : rk x + d < -9218868437227405312 ∨ 9218868437227405312 < rk x + d) : x = stp x d := by unfold stp; rw [if_neg (by simp [h]), if_pos h2]
theorem stp_3 {x : Nat} {d : Int} (h : nn x = false) (h2 : ¬ (rk x + d < -9218868437227405312 ∨ 9218868437227405312 < rk x + d)) : atk (rk x + d) = stp x d := by unfold stp; rw [if_neg (by simp [h]), if_neg h2]

end Go.Proofs.Yteikihidblcljaa

/- What a floating-point operation of the program gives, all NaNs taken for one. -/
namespace Go.Proofs.Yteikihidblcljaa
open Go.RowKit

theorem cut_nan (x y t : Nat) : F64 ((Question.nanBits .f64 x y).cut t) ∧ nn ((Question.nanBits .f64 x y).cut t) = true := by
  have e : (Question.nanBits .f64 x y).cut t = (t % 2) * 2 ^ 63 + 0x7ff0000000000000 + 1 + (t / 2) % (2 ^ 52 - 1) := rfl
  rw [e]
  refine ⟨⟨by omega⟩, ?_⟩
  unfold nn mg INF
  have hq : t / 2 % (2 ^ 52 - 1) < 2 ^ 52 - 1 := Nat.mod_lt _ (by decide)
  generalize t / 2 % (2 ^ 52 - 1) = q at *
  rw [decide_eq_true_eq]
  rcases Nat.mod_two_eq_zero_or_one t with h | h <;> rw [h] <;> omega

theorem fres_some {op : BinOp} {x y r : Nat} (w : World) (h : floatBits op .f64 x y = some r) : fres op x y w = r := by unfold fres; rw [h]
theorem fres_none {op : BinOp} {x y : Nat} (w : World) (h : floatBits op .f64 x y = none) : F64 (fres op x y w) ∧ nn (fres op x y w) = true := by
  unfold fres; rw [h]; exact cut_nan x y _

theorem F64_fres (op : BinOp) (x y : Nat) (w : World) : F64 (fres op x y w) := by
  cases h : floatBits op .f64 x y with
  | none => exact (fres_none w h).1
  | some r => rw [fres_some w h]; have := floatBits_wf h; exact ⟨by simpa [Lit.wf] using this⟩

theorem cn_fadd (x y : Nat) (w : World) (hx : F64 x) (hy : F64 y) : cn (fres .add x y w) = fadd (cn x) (cn y) := by
  unfold fadd; rw [add_cn x y hx hy]
  cases h : dbl.add x y with
  | none => exact cn_nan _ (fres_none (op := .add) w h).2
  | some r => rw [fres_some (op := .add) w h, cn_of _ (nn_add h)]; rfl
theorem cn_fsub (x y : Nat) (w : World) (hx : F64 x) (hy : F64 y) : cn (fres .sub x y w) = fsub (cn x) (cn y) := by
  unfold fsub; rw [sub_cn x y hx hy]
  cases h : dbl.sub x y with
  | none => exact cn_nan _ (fres_none (op := .sub) w h).2
  | some r => rw [fres_some (op := .sub) w h, cn_of _ (nn_sub h)]; rfl
theorem cn_fmul (x y : Nat) (w : World) (hx : F64 x) (hy : F64 y) : cn (fres .mul x y w) = fmul (cn x) (cn y) := by
  unfold fmul; rw [mul_cn x y hx hy]
  cases h : dbl.mul x y with
  | none => exact cn_nan _ (fres_none (op := .mul) w h).2
  | some r => rw [fres_some (op := .mul) w h, cn_of _ (nn_mul h)]; rfl
theorem cn_fdiv (x y : Nat) (w : World) (hx : F64 x) (hy : F64 y) : cn (fres .quo x y w) = fdiv (cn x) (cn y) := by
  unfold fdiv; rw [div_cn x y hx hy]
  cases h : dbl.div x y with
  | none => exact cn_nan _ (fres_none (op := .quo) w h).2
  | some r => rw [fres_some (op := .quo) w h, cn_of _ (nn_div h)]; rfl

/-- It returns a float that is v, all NaNs taken for one; what memory held is as it was. -/
def FRet (v : Nat) (w : World) (e : Ending) (w' : World) : Prop := ∃ r n, e = .returned (.float .f64 r) ∧ F64 r ∧ cn r = v ∧ w' = w.drewN n

end Go.Proofs.Yteikihidblcljaa

/- Plain: floats stand in the order of their ranks. No program. -/
namespace Go.Proofs.Yteikihidblcljaa

/-- A size in units of 2^-1074. -/
def VV (r : Nat) : Nat := if r < 4503599627370496 then r else (4503599627370496 + r % 4503599627370496) * 2 ^ (r / 4503599627370496 - 1)

theorem VV_mono {r s : Nat} (h : r < s) : VV r < VV s := by
  unfold VV
  by_cases h1 : r < 4503599627370496
  · rw [if_pos h1]
    by_cases h2 : s < 4503599627370496
    · rw [if_pos h2]; exact h
    · rw [if_neg h2]
      have : 1 ≤ 2 ^ (s / 4503599627370496 - 1) := Nat.one_le_two_pow
      calc r < 4503599627370496 * 1 := by omega
        _ ≤ (4503599627370496 + s % 4503599627370496) * 2 ^ (s / 4503599627370496 - 1) := Nat.mul_le_mul (by omega) this
  · have h2 : ¬ s < 4503599627370496 := by omega
    rw [if_neg h1, if_neg h2]
    by_cases h3 : r / 4503599627370496 = s / 4503599627370496
    · rw [h3]
      exact Nat.mul_lt_mul_of_pos_right (by omega) (Nat.two_pow_pos _)
    · obtain ⟨d, hd⟩ : ∃ d, s / 4503599627370496 - 1 = (r / 4503599627370496 - 1) + 1 + d := ⟨s / 4503599627370496 - 1 - (r / 4503599627370496), by omega⟩
      rw [hd, Nat.pow_add, Nat.pow_succ]
      have hp : 0 < 2 ^ (r / 4503599627370496 - 1) := Nat.two_pow_pos _
      have hq : 1 ≤ 2 ^ d := Nat.one_le_two_pow
      generalize 2 ^ (r / 4503599627370496 - 1) = p at *
      generalize 2 ^ d = q at *
      calc (4503599627370496 + r % 4503599627370496) * p < (4503599627370496 * 2) * p := Nat.mul_lt_mul_of_pos_right (by omega) hp
        _ = 4503599627370496 * (p * 2 * 1) := by rw [Nat.mul_one, Nat.mul_assoc, Nat.mul_comm 2 p]
        _ ≤ (4503599627370496 + s % 4503599627370496) * (p * 2 * q) := Nat.mul_le_mul (by omega) (Nat.mul_le_mul_left _ hq)

theorem VV_lt {r s : Nat} : VV r < VV s ↔ r < s := by
  constructor
  · intro h
    rcases Nat.lt_trichotomy r s with h1 | h1 | h1
    · exact h1
    · subst h1; omega
    · have := VV_mono h1; omega
  · exact VV_mono

/-- The signed size in units of 2^-1074. -/
def SV (x : Nat) : Int := if ng x then -(VV (mg x) : Int) else VV (mg x)

theorem VV_zero : VV 0 = 0 := rfl
theorem VV_inj {r s : Nat} (h : VV r = VV s) : r = s := by
  rcases Nat.lt_trichotomy r s with h1 | h1 | h1
  · have := VV_mono h1; omega
  · exact h1
  · have := VV_mono h1; omega
theorem VV_pos {r : Nat} (h : 0 < r) : 0 < VV r := VV_mono (r := 0) h

theorem SV_lt {x y : Nat} : SV x < SV y ↔ rk x < rk y := by
  have h1 := VV_lt (r := mg x) (s := mg y)
  have h2 := VV_lt (r := mg y) (s := mg x)
  have h3 := VV_lt (r := 0) (s := mg x)
  have h4 := VV_lt (r := 0) (s := mg y)
  rw [VV_zero] at h3 h4
  unfold SV rk
  split <;> split <;> omega

theorem SV_cmp (x y : Nat) : compare (SV x) (SV y) = compare (rk x) (rk y) := by
  have h1 := SV_lt (x := x) (y := y)
  have h2 := SV_lt (x := y) (y := x)
  simp only [compare, compareOfLessAndEq]
  by_cases a : rk x < rk y
  · rw [if_pos a, if_pos (h1.2 a)]
  · rw [if_neg a, if_neg (fun h => a (h1.1 h))]
    by_cases b : rk y < rk x
    · rw [if_neg (by have := h2.2 b; omega), if_neg (by omega)]
    · have c : rk x = rk y := by omega
      have d : SV x = SV y := by
        have := mt h1.1 a
        have := mt h2.1 b
        omega
      rw [if_pos c, if_pos d]

/-- A number's reading: its size is mag * 2^place. -/
theorem read_num (x : Nat) (h : F64 x) (hf : fin x = true) : ∃ m i, dbl.read x = .number (ng x) m i ∧ -1074 ≤ i ∧ VV (mg x) = m * 2 ^ (i + 1074).toNat := by
  rw [read_eq x h]
  unfold fin INF at hf; simp at hf
  by_cases h1 : mg x < 4503599627370496
  · refine ⟨mg x, -1074, by rw [if_pos h1], by omega, ?_⟩
    unfold VV; rw [if_pos h1]; simp
  · refine ⟨_, _, by rw [if_neg h1, if_pos (by unfold INF; omega)], by omega, ?_⟩
    unfold VV; rw [if_neg h1]
    congr 2
    omega

theorem read_inf (x : Nat) (h : F64 x) (hf : mg x = INF) : dbl.read x = .infinity (ng x) := by
  rw [read_eq x h, if_neg (by rw [hf]; unfold INF; decide), if_neg (by omega), if_pos hf]

theorem signed_scale (s : Bool) (m : Nat) (i : Int) (b : Int) (hb : b ≤ i) (hb0 : -1074 ≤ b) :
    (Ieee.signed s m (i - b).toNat) * (2 : Int) ^ (b + 1074).toNat = if s then -((m * 2 ^ (i + 1074).toNat : Nat) : Int) else ((m * 2 ^ (i + 1074).toNat : Nat) : Int) := by
  unfold Ieee.signed
  have e : (i + 1074).toNat = (i - b).toNat + (b + 1074).toNat := by omega
  rw [Nat.shiftLeft_eq, e, Nat.pow_add]
  split
  · rw [Int.neg_mul]; congr 1; rw [← Nat.mul_assoc]; push_cast; rfl
  · rw [← Nat.mul_assoc]; push_cast; rfl

theorem cmp_l {a b : Int} (h : a < b) : compare a b = .lt := by simp only [compare, compareOfLessAndEq]; rw [if_pos h]
theorem cmp_e {a b : Int} (h : a = b) : compare a b = .eq := by simp only [compare, compareOfLessAndEq]; rw [if_neg (by omega), if_pos h]
theorem cmp_g {a b : Int} (h : b < a) : compare a b = .gt := by simp only [compare, compareOfLessAndEq]; rw [if_neg (by omega), if_neg (by omega)]

theorem cmp_scale (a b : Int) (k : Int) (hk : 0 < k) : compare (a * k) (b * k) = compare a b := by
  simp only [compare, compareOfLessAndEq]
  have h1 : a * k < b * k ↔ a < b := Int.mul_lt_mul_right hk
  have h2 : a * k = b * k ↔ a = b := by
    constructor
    · intro h; exact Int.eq_of_mul_eq_mul_right (by omega) h
    · intro h; rw [h]
  simp only [h1, h2]

/-- Floats stand in the order of their ranks. -/
theorem order_eq (x y : Nat) (hx : F64 x) (hy : F64 y) (hn : nn x = false) (hm : nn y = false) : dbl.order x y = some (compare (rk x) (rk y)) := by
  unfold Ieee.Format.order
  have hX : mg x ≤ INF := by unfold nn at hn; simp at hn; exact hn
  have hY : mg y ≤ INF := by unfold nn at hm; simp at hm; exact hm
  by_cases fx : fin x = true
  · obtain ⟨m, i, r1, i0, v1⟩ := read_num x hx fx
    rw [r1]
    unfold fin at fx; simp at fx
    by_cases fy : fin y = true
    · obtain ⟨n, j, r2, j0, v2⟩ := read_num y hy fy
      rw [r2]
      simp only [Ieee.Datum.order]
      have hb1 : min i j ≤ i := Int.min_le_left _ _
      have hb2 : min i j ≤ j := Int.min_le_right _ _
      have hb0 : -1074 ≤ min i j := by omega
      congr 1
      rw [← SV_cmp, ← cmp_scale _ _ ((2 : Int) ^ (min i j + 1074).toNat) (Int.pow_pos (by decide))]
      rw [signed_scale _ _ _ _ hb1 hb0, signed_scale _ _ _ _ hb2 hb0, ← v1, ← v2]
      rfl
    · unfold fin at fy; simp at fy
      have e : mg y = INF := by omega
      rw [read_inf y hy e]
      simp only [Ieee.Datum.order]
      unfold rk
      rw [e]
      congr 1
      symm
      cases ng y <;> cases ng x <;> simp <;> first | (apply cmp_l; omega) | (apply cmp_g; omega)
  · unfold fin at fx; simp at fx
    have e : mg x = INF := by omega
    rw [read_inf x hx e]
    by_cases fy : fin y = true
    · obtain ⟨n, j, r2, j0, v2⟩ := read_num y hy fy
      rw [r2]
      unfold fin at fy; simp at fy
      simp only [Ieee.Datum.order]
      unfold rk
      rw [e]
      congr 1
      symm
      cases ng y <;> cases ng x <;> simp <;> first | (apply cmp_l; omega) | (apply cmp_g; omega)
    · unfold fin at fy; simp at fy
      have e' : mg y = INF := by omega
      rw [read_inf y hy e']
      simp only [Ieee.Datum.order]
      unfold rk
      rw [e, e']
      have hp : (0 : Int) < INF := by unfold INF; decide
      congr 1
      cases ng y <;> cases ng x <;> simp <;> first | (symm; apply cmp_l; omega) | (symm; apply cmp_g; omega)

theorem order_nan (x y : Nat) (hx : F64 x) (hy : F64 y) (hn : nn x = true ∨ nn y = true) : dbl.order x y = none := by
  unfold Ieee.Format.order
  rcases hn with h | h
  · obtain ⟨s, t, r⟩ := read_nan x hx h
    rw [r]; cases dbl.read y <;> rfl
  · obtain ⟨s, t, r⟩ := read_nan y hy h
    rw [r]; cases dbl.read x <;> rfl

theorem flt (x y : Nat) (hx : F64 x) (hy : F64 y) : (FloatKind.f64.format.order x y == some .lt) = (!nn x && !nn y && decide (rk x < rk y)) := by
  show (dbl.order x y == some .lt) = _
  by_cases hn : nn x = true
  · rw [order_nan x y hx hy (Or.inl hn), hn]; rfl
  · by_cases hm : nn y = true
    · rw [order_nan x y hx hy (Or.inr hm), hm]; simp
    · have hn : nn x = false := by simpa using hn
      have hm : nn y = false := by simpa using hm
      rw [order_eq x y hx hy hn hm, hn, hm]
      simp only [compare, compareOfLessAndEq]
      by_cases a : rk x < rk y
      · simp [a]
      · by_cases b : rk x = rk y <;> simp [a, b]
theorem fgt (x y : Nat) (hx : F64 x) (hy : F64 y) : (FloatKind.f64.format.order x y == some .gt) = (!nn x && !nn y && decide (rk y < rk x)) := by
  show (dbl.order x y == some .gt) = _
  by_cases hn : nn x = true
  · rw [order_nan x y hx hy (Or.inl hn), hn]; rfl
  · by_cases hm : nn y = true
    · rw [order_nan x y hx hy (Or.inr hm), hm]; simp
    · have hn : nn x = false := by simpa using hn
      have hm : nn y = false := by simpa using hm
      rw [order_eq x y hx hy hn hm, hn, hm]
      simp only [compare, compareOfLessAndEq]
      by_cases a : rk x < rk y
      · simp [a]; omega
      · by_cases b : rk x = rk y
        · simp [b]
        · simp [a, b]; omega
theorem feq (x y : Nat) (hx : F64 x) (hy : F64 y) : (FloatKind.f64.format.order x y == some .eq) = (!nn x && !nn y && decide (rk x = rk y)) := by
  show (dbl.order x y == some .eq) = _
  by_cases hn : nn x = true
  · rw [order_nan x y hx hy (Or.inl hn), hn]; rfl
  · by_cases hm : nn y = true
    · rw [order_nan x y hx hy (Or.inr hm), hm]; simp
    · have hn : nn x = false := by simpa using hn
      have hm : nn y = false := by simpa using hm
      rw [order_eq x y hx hy hn hm, hn, hm]
      simp only [compare, compareOfLessAndEq]
      by_cases a : rk x < rk y
      · simp [a]; omega
      · by_cases b : rk x = rk y <;> simp [a, b]

end Go.Proofs.Yteikihidblcljaa

/- The walk of fn.Horner. -/
namespace Go.Proofs.Yteikihidblcljaa
open Go.RowKit

/-- A slice of floats, told as a list. -/
structure Fls (w : World) (a : Option Addr) (l : List Nat) : Prop where
  nil : a = none → l = []
  cell : ∀ b o v, a = some ⟨b, o, v⟩ → ∀ i, i < l.length → v = none ∧ w.cell? ⟨b, o + i, none⟩ = some (.float .f64 (l.getD i 0))
  wf : ∀ i, F64 (l.getD i 0)
  len : l.length ≤ 9223372036854775807

/-- Horner's scheme, all NaNs taken for one. -/
def horn : List Nat → Nat → Nat
  | [], _ => 0
  | [c], _ => c
  | a :: b :: r, x => fadd (fmul (horn (b :: r) x) x) a

theorem horn_step (l : List Nat) (x j : Nat) (h : j + 1 < l.length) : horn (l.drop j) x = fadd (fmul (horn (l.drop (j + 1)) x) x) (l.getD j 0) := by
  rw [List.drop_eq_getElem_cons (by omega : j < l.length), List.drop_eq_getElem_cons h]
  simp [horn, List.getElem?_eq_getElem (by omega : j < l.length)]

theorem horn_last (l : List Nat) (x : Nat) (h : 0 < l.length) : horn (l.drop (l.length - 1)) x = l.getD (l.length - 1) 0 := by
  rw [List.drop_eq_getElem_cons (by omega : l.length - 1 < l.length), List.drop_of_length_le (by omega)]
  simp [horn, List.getElem?_eq_getElem (by omega : l.length - 1 < l.length)]

theorem cn_zero : cn 0 = 0 := by unfold cn nn mg INF; decide

set_option maxHeartbeats 800000 in
theorem horner_any (a : Option Addr) (l : List Nat) (c x : Nat) (hx : F64 x) (w : World) (hl : Fls w a l) :
    Calls Try.prog 141 #[.slice a l.length c, .float .f64 x] w (FRet (horn (l.map cn) (cn x)) w) := by
  by_cases h0 : l.length = 0
  · obtain rfl : l = [] := List.eq_nil_of_length_eq_zero h0
    go_enter Try.func141, Try.ntmps141
    go_wp2
    go_ret
    exact ⟨0, 0, rfl, ⟨by decide⟩, cn_zero, rfl⟩
  · obtain ⟨b, o, rfl⟩ : ∃ b o, a = some ⟨b, o, none⟩ := by
      cases a with
      | none => exact absurd (hl.nil rfl) (by intro h; rw [h] at h0; simp at h0)
      | some p => obtain ⟨b, o, v⟩ := p; obtain ⟨rfl, _⟩ := hl.cell b o v rfl 0 (by omega); exact ⟨b, o, rfl⟩
    have hcell : ∀ i, i < l.length → w.cell? ⟨b, o + i, none⟩ = some (.float .f64 (l.getD i 0)) := fun i hi => (hl.cell b o none rfl i hi).2
    have hpos : 0 < l.length := by omega
    have hlen := hl.len
    have hc0 : ((l.length : Int) == 0) = false := by rw [beq_eq_false_iff_ne]; omega
    have HC := Hd.mk hcell
    have HL := Hd.mk hl
    have hc1 : w.cell? ⟨b, o + (l.length - 1), none⟩ = some (.float .f64 (l.getD (l.length - 1) 0)) := hcell (l.length - 1) (by omega)
    clear hcell hl h0
    go_enter Try.func141, Try.ntmps141
    go_wp2
    go_loopw [5, 6] (fun p i wr => ∃ (j r n : Nat), j < l.length ∧ F64 r ∧ Hd (cn r = horn ((l.map cn).drop j) (cn x)) ∧ p = .float .f64 r ∧ i = .int .i64 ((j : Int) - 1) ∧ wr = w.drewN n) (fun _ i _ => (intOf i + 1).toNat)
    case atStart =>
      refine ⟨l.length - 1, l.getD (l.length - 1) 0, 0, by omega, HL.out.wf _, ⟨?_⟩, rfl, ?_, rfl⟩
      · have := horn_last (l.map cn) (cn x) (by simpa using hpos)
        rw [List.length_map] at this; rw [this]
        simp [List.getElem?_eq_getElem (by omega : l.length - 1 < l.length)]
      · congr 1; omega
    case round =>
      obtain ⟨j, r, n, hj, hr, HR, rfl, rfl, rfl⟩ := hrel
      by_cases hj0 : j = 0
      · subst hj0
        have H : Hd (cn r = horn (l.map cn) (cn x)) := HR
        go_wp2
        go_ret
        exact ⟨r, n, rfl, hr, H.out, rfl⟩
      · obtain ⟨k, rfl⟩ : ∃ k, j = k + 1 := ⟨j - 1, by omega⟩
        have hk : w.cell? ⟨b, o + k, none⟩ = some (.float .f64 (l.getD k 0)) := HC.out k (by omega)
        have HS := Hd.mk (horn_step (l.map cn) (cn x) k (by simpa using hj))
        go_wp2
        refine ⟨⟨k, _, _, by omega, F64_fres _ _ _ _, ⟨?_⟩, rfl, rfl, rfl⟩, by simp [intOf]⟩
        have hf : F64 (l.getD k 0) := HL.out.wf k
        have hd : (l.map cn).getD k 0 = cn (l.getD k 0) := by
          simp [List.getElem?_eq_getElem (by omega : k < l.length)]
        rw [HS.out, hd, ← HR.out, ← cn_fmul r x (w.drewN n) hr hx]
        exact cn_fadd _ _ _ (F64_fres _ _ _ _) hf

end Go.Proofs.Yteikihidblcljaa

/- The walks of tenorlaw1.Is and of what it calls. -/
namespace Go.Proofs.Yteikihidblcljaa
open Go.RowKit

/-- Two floats are the same. -/
def same (x y : Nat) : Bool := x == y || (nn x && nn y)
theorem same_of_cn {x y : Nat} (h : cn x = cn y) : same x y = true := by
  unfold same
  by_cases h1 : nn x = true
  · have h2 : nn y = true := by rw [← nn_cn, ← h, nn_cn]; exact h1
    simp [h1, h2]
  · have h1 : nn x = false := by simpa using h1
    have h2 : nn y = false := by rw [← nn_cn, ← h, nn_cn]; exact h1
    rw [cn_of x h1, cn_of y h2] at h
    simp [h]
theorem cn_of_same {x y : Nat} (h : same x y = true) : cn x = cn y := by
  unfold same at h
  simp at h
  rcases h with h | ⟨h1, h2⟩
  · rw [h]
  · rw [cn_nan x h1, cn_nan y h2]
theorem nn_int (x : Nat) : decide ((9218868437227405312 : Int) < mg x) = nn x := by
  unfold nn INF; rw [Bool.eq_iff_iff]; simp; omega

set_option maxHeartbeats 800000 in
theorem rIsNaN_any (u : Nat) (hu : F64 u) (w : World) :
    Calls Try.prog 56 #[.int .u64 u] w fun e w' => e = .returned (.bool (nn u)) ∧ w = w' := by
  have h1 := bits_mg u hu
  have H := Hd.mk (nn_int u)
  go_enter Try.func56, Try.ntmps56
  go_wp2
  go_ret
  exact ⟨ret_bool H.out, rfl⟩

set_option maxHeartbeats 800000 in
theorem rSame_any (u v : Nat) (hu : F64 u) (hv : F64 v) (w : World) :
    Calls Try.prog 75 #[.int .u64 u, .int .u64 v] w fun e w' => e = .returned (.bool (same u v)) ∧ w = w' := by
  by_cases h : u = v
  · have H : Hd (true = same u v) := ⟨by unfold same; simp [h]⟩
    have h1 : ((u : Int) == v) = true := by rw [beq_iff_eq]; omega
    clear h
    go_enter Try.func75, Try.ntmps75
    go_wp2
    go_ret
    exact ⟨ret_bool H.out, rfl⟩
  · have h1 : ((u : Int) == v) = false := by rw [beq_eq_false_iff_ne]; omega
    have hh : (u == v) = false := by rw [beq_eq_false_iff_ne]; exact h
    cases hn : nn u
    · have H : Hd (false = same u v) := ⟨by unfold same; rw [hh, hn]; rfl⟩
      clear h hh
      go_enter Try.func75, Try.ntmps75
      go_wp2_with (go_at_call 56; refine (rIsNaN_any _ hu _).mono ?_; rintro e w' ⟨rfl, rfl⟩)
      go_ret
      exact ⟨ret_bool H.out, rfl⟩
    · have H : Hd (nn v = same u v) := ⟨by unfold same; rw [hh, hn]; rfl⟩
      clear h hh
      go_enter Try.func75, Try.ntmps75
      go_wp2_with fail
      refine (rIsNaN_any _ hu _).mono ?_; rintro e w' ⟨rfl, rfl⟩
      go_wp2_with fail
      refine (rIsNaN_any _ hv _).mono ?_; rintro e w' ⟨rfl, rfl⟩
      go_wp2_with fail
      go_ret
      exact ⟨ret_bool H.out, rfl⟩

set_option maxHeartbeats 800000 in
theorem is_any (x u : Nat) (hx : F64 x) (hu : F64 u) (w : World) :
    Calls Try.prog 21 #[.float .f64 x, .int .u64 u] w fun e w' => e = .returned (.bool (same x u)) ∧ w = w' := by
  go_enter Try.func21, Try.ntmps21
  go_wp2_with fail
  refine (apiBits_any _ _).mono ?_; rintro e w' ⟨rfl, rfl⟩
  go_wp2_with fail
  refine (rSame_any _ _ hx hu _).mono ?_; rintro e w' ⟨rfl, rfl⟩
  go_wp2_with fail
  go_ret
  exact ⟨rfl, rfl⟩

end Go.Proofs.Yteikihidblcljaa

/- Plain: Horner's scheme at -0 has the sign that it has at +0; a number less itself. No program. -/
namespace Go.Proofs.Yteikihidblcljaa

theorem mg_rk (x : Nat) : (mg x : Int) = (rk x).natAbs := by
  unfold rk; split <;> omega
theorem fin_of {x : Nat} (h : nn x = false) (h2 : (rk x).natAbs ≠ 9218868437227405312) : fin x = true := by
  have := mg_rk x
  unfold nn at h; unfold fin INF at *; simp at *; omega
theorem fin_rk {x : Nat} (h : fin x = true) : (rk x).natAbs < 9218868437227405312 := by
  have := mg_rk x
  unfold fin INF at h; simp at h; omega

theorem read_zero (x : Nat) (h : F64 x) (hz : mg x = 0) : dbl.read x = .number (ng x) 0 (-1074) := by
  rw [read_eq x h, hz, if_pos (by decide)]

theorem nearest_zero (s : Bool) (e : Int) : dbl.nearest s 0 e = if s then 9223372036854775808 else 0 := by
  unfold Ieee.Format.nearest
  rw [if_pos rfl]
  unfold Ieee.Format.word
  rw [dbl_sw]

theorem write_num (s : Bool) (m : Nat) (e : Int) : dbl.write (.number s m e) = dbl.nearest s m e := rfl

theorem mg_0 : mg 0 = 0 := by unfold mg; rfl

theorem mg_zero (s : Bool) : mg (if s then 9223372036854775808 else 0) = 0 := by
  unfold mg; cases s <;> rfl

/-- A product with a zero: a NaN, or a zero. -/
theorem fmul_zero (q z : Nat) (hq : F64 q) (hz : F64 z) (h0 : mg z = 0) : (fin q = false ∧ fmul q z = NaNc) ∨ (fin q = true ∧ mg (fmul q z) = 0) := by
  unfold fmul Ieee.Format.mul
  rw [read_zero z hz h0]
  cases hf : fin q
  · left
    refine ⟨rfl, ?_⟩
    by_cases hn : nn q = true
    · obtain ⟨s, t, r⟩ := read_nan q hq hn
      rw [r]; rfl
    · have : mg q = INF := by unfold nn at hn; unfold fin at hf; simp at hn hf; omega
      rw [read_inf q hq this]; rfl
  · right
    refine ⟨rfl, ?_⟩
    obtain ⟨m, i, r, _, _⟩ := read_num q hq hf
    rw [r]
    simp only [Ieee.Datum.product, Option.map_some, Option.getD_some]
    rw [write_num, Nat.mul_zero, nearest_zero]
    exact mg_zero _

/-- To which zero a number is added makes nothing but the sign of a zero. -/
theorem fadd_zero (s t a : Nat) (hs : F64 s) (ht : F64 t) (h1 : mg s = 0) (h2 : mg t = 0) : nn (fadd s a) = nn (fadd t a) ∧ rk (fadd s a) = rk (fadd t a) := by
  unfold fadd Ieee.Format.add
  rw [read_zero s hs h1, read_zero t ht h2]
  cases hr : dbl.read a with
  | nan => exact ⟨rfl, rfl⟩
  | infinity => exact ⟨rfl, rfl⟩
  | number u n j =>
    simp only [Ieee.Datum.sum, Option.map_some, Option.getD_some]
    have e : ∀ b k, Ieee.signed b 0 k = 0 := by intro b k; unfold Ieee.signed; cases b <;> simp
    rw [e, e]
    rw [write_num, write_num, nearest_nn, nearest_nn]
    refine ⟨rfl, ?_⟩
    rw [Int.zero_add]
    by_cases h0 : Ieee.signed u n (j - min (-1074) j).toNat = 0
    · rw [if_pos h0, if_pos h0, h0]
      rw [show (0 : Int).natAbs = 0 from rfl, nearest_zero, nearest_zero]
      have : ∀ b : Bool, rk (if b then 9223372036854775808 else 0) = 0 := by
        intro b
        have := mg_rk (if b then 9223372036854775808 else 0)
        rw [mg_zero] at this
        omega
      rw [this, this]
    · rw [if_neg h0, if_neg h0]

theorem fadd_nan_l (a : Nat) : fadd NaNc a = NaNc := by
  unfold fadd
  have : dbl.add NaNc a = none := by
    unfold Ieee.Format.add
    obtain ⟨s, t, r⟩ := read_nan NaNc F64_NaNc nn_NaNc
    rw [r, sum_nan_l]; rfl
  rw [this]; rfl

/-- A number less itself is +0; an infinity less itself is a NaN. -/
theorem fsub_self (x : Nat) (h : F64 x) : fsub (cn x) (cn x) = if fin x then 0 else NaNc := by
  unfold fsub
  rw [sub_cn x x h h]
  unfold Ieee.Format.sub
  cases hf : fin x
  · by_cases hn : nn x = true
    · obtain ⟨s, t, r⟩ := read_nan x h hn
      rw [r]; rfl
    · have : mg x = INF := by unfold nn at hn; unfold fin at hf; simp at hn hf; omega
      rw [read_inf x h this]
      cases ng x <;> rfl
  · obtain ⟨m, i, r, _, _⟩ := read_num x h hf
    rw [r]
    simp only [Ieee.Datum.opposite, Ieee.Datum.sum, Option.map_some, Option.getD_some]
    have e : Ieee.signed (ng x) m (i - min i i).toNat + Ieee.signed (!ng x) m (i - min i i).toNat = 0 := by
      unfold Ieee.signed; cases ng x <;> simp <;> omega
    rw [e]
    rw [write_num, show (0 : Int).natAbs = 0 from rfl, nearest_zero]
    cases ng x <;> rfl

theorem fle (x y : Nat) (hx : F64 x) (hy : F64 y) (hn : nn x = false) (hm : nn y = false) : (FloatKind.f64.format.order x y == some .lt || FloatKind.f64.format.order x y == some .eq) = decide (rk x ≤ rk y) := by
  rw [flt x y hx hy, feq x y hx hy, hn, hm]
  rw [Bool.eq_iff_iff]; simp; omega

end Go.Proofs.Yteikihidblcljaa
