/- Whole numbers are added exactly: the law behind AccWhole. -/
import Derived.Test.YtpegicgahbambaaKyC
namespace Go.Proofs.Ytpegicgahbambaa
open Go.RowKit
set_option linter.unusedSimpArgs false
set_option linter.unusedVariables false

/-- A sum's Value is the sum, rounded. -/
theorem rk_overA (z : Int) : rk (overA z false false 1) = rz (-2148) z := by
  unfold overA nearZ
  simp only [Bool.false_and, Bool.false_eq_true, if_false, Nat.div_one, Nat.mod_one]
  rw [show nz 0 = false from rfl, madeN_word, (rk_word _ _ (Nat.min_le_right _ _)).1]
  unfold rz
  by_cases h : z < 0
  · simp [h]
  · simp [h]
theorem nn_overA (z : Int) (n : Nat) : nn (overA z false false n) = false := by
  unfold overA nearZ
  simp only [Bool.false_and, Bool.false_eq_true, if_false]
  rw [madeN_word]
  exact (rk_word _ _ (Nat.min_le_right _ _)).2.1
theorem rz_scale (k : Nat) (e z : Int) (he : e ≤ -1074) : rz (e - k) (z * ((2 ^ k : Nat) : Int)) = rz e z := by
  by_cases h0 : z = 0
  · subst h0
    rw [Int.zero_mul, rz_zero _ (by omega), rz_zero _ he]
  have h1 : (z * ((2 ^ k : Nat) : Int)).natAbs = z.natAbs * 2 ^ k := by rw [Int.natAbs_mul, Int.natAbs_natCast]
  have h2 : rnd (z.natAbs * 2 ^ k) (e - k) false = rnd z.natAbs e false := rnd_scale _ _ _ (by omega)
  have hp : (0 : Int) < ((2 ^ k : Nat) : Int) := by have := Nat.pow_pos (n := k) (show 0 < 2 by decide); omega
  unfold rz
  rw [h1, h2]
  by_cases h : z < 0
  · rw [if_pos h, if_pos (Int.mul_neg_of_neg_of_pos h hp)]
  · rw [if_neg h, if_neg (Int.not_lt.2 (Int.mul_nonneg (by omega) (by omega)))]

theorem wh_rk {x y : Nat} (h : SV x = SV y) : rk x = rk y := by
  have a := SV_le (x := x) (y := y)
  have b := SV_le (x := y) (y := x)
  omega
theorem wh_SV {x y : Nat} (h : rk x = rk y) : SV x = SV y := by
  have a := SV_le (x := x) (y := y)
  have b := SV_le (x := y) (y := x)
  omega

/-- A float that is a whole number. -/
structure Whl (x : Nat) (n : Int) : Prop where
  wf : F64 x
  fn : fin x = true
  sv : SV x = n * (U1 : Int)
theorem Whl.nn {x : Nat} {n : Int} (h : Whl x n) : nn x = false := nn_fin _ h.fn
theorem Whl.cn {x : Nat} {n : Int} (h : Whl x n) : cn x = x := cn_of x h.nn
theorem Whl.of_int (n : Int) (h1 : n.natAbs ≤ 9007199254740992) : Whl (floatOfInt .f64 n) n :=
  have h := int_float n (by omega) (by omega)
  ⟨h.2.2.1, h.2.1, h.1⟩
theorem Whl.zero : Whl 0 0 := ⟨⟨by decide⟩, by decide +kernel, by rw [Int.zero_mul]; decide +kernel⟩
theorem Whl.of_rk {x : Nat} {n : Int} (hx : F64 x) (hn : n.natAbs ≤ 9007199254740992) (h : rk x = rz (-1074) (n * (U1 : Int))) : Whl x n := by
  have hi := Whl.of_int n hn
  rw [← hi.sv, rz_SV _ hi.fn] at h
  exact ⟨hx, (rk_fin x).2 (by rw [h]; exact (rk_fin _).1 hi.fn), by rw [wh_SV h, hi.sv]⟩
theorem Whl.add {x y : Nat} {a b : Int} (h : Whl x a) (k : Whl y b) (hn : (a + b).natAbs ≤ 9007199254740992) : Whl (fadd x y) (a + b) := by
  refine Whl.of_rk (F64_fadd _ _) hn ?_
  rw [(rk_fadd x y h.wf k.wf h.fn k.fn).1, h.sv, k.sv, Int.add_mul]
theorem Whl.sub {x y : Nat} {a b : Int} (h : Whl x a) (k : Whl y b) (hn : (a - b).natAbs ≤ 9007199254740992) : Whl (fsub x y) (a - b) := by
  refine Whl.of_rk (F64_fsub _ _) hn ?_
  rw [(rk_fsub x y h.wf k.wf h.fn k.fn).1, h.sv, k.sv, Int.sub_mul]
theorem Whl.eq {x y : Nat} {n : Int} (h : Whl x n) (k : Whl y n) : (FloatKind.f64.format.order x y == some .eq) = true := by
  rw [feq x y h.wf k.wf, h.nn, k.nn, wh_rk (h.sv.trans k.sv.symm)]
  simp
theorem Whl.aZ {x : Nat} {n : Int} (h : Whl x n) : aZ x = n * (U1 : Int) * (U1 : Int) := by
  have := h.sv
  unfold Go.Proofs.Ytpegicgahbambaa.aZ
  rw [h.fn, if_pos rfl, this]

def sI : List Int → Int
  | [] => 0
  | n :: l => n + sI l
def aI : List Int → Nat
  | [] => 0
  | n :: l => n.natAbs + aI l
theorem sI_cons (n : Int) (l : List Int) : sI (n :: l) = n + sI l := rfl
theorem sI_le : ∀ l, (sI l).natAbs ≤ aI l
  | [] => Nat.le_refl _
  | n :: l => by
    have := sI_le l
    unfold sI aI
    omega
theorem sI_snoc : ∀ (l : List Int) (n : Int), sI (l ++ [n]) = sI l + n ∧ aI (l ++ [n]) = aI l + n.natAbs
  | [], n => by simp [sI, aI]
  | m :: l, n => by
    have := sI_snoc l n
    simp only [List.cons_append, sI, aI]
    omega
theorem sI_append : ∀ (l m : List Int), sI (l ++ m) = sI l + sI m ∧ aI (l ++ m) = aI l + aI m
  | [], m => by simp [sI, aI]
  | n :: l, m => by
    have := sI_append l m
    simp only [List.cons_append, sI, aI]
    omega

/-- A list of floats that are whole numbers. -/
def FI (n : Int) : Nat := floatOfInt .f64 n
theorem left_whl : ∀ (l : List Int) (s : Nat) (a : Int), Whl s a → a.natAbs + aI l ≤ 9007199254740992 → Whl ((l.map FI).foldl (fun s x => fadd s (cn x)) s) (a + sI l)
  | [], s, a, h, _ => by simpa [sI] using h
  | n :: l, s, a, h, hb => by
    unfold aI at hb
    have h1 := Whl.of_int n (by omega)
    have h2 := h.add h1 (by omega)
    have := left_whl l _ _ h2 (by omega)
    rw [List.map_cons, List.foldl_cons]
    unfold FI at *
    rw [h1.cn]
    rw [show a + sI (n :: l) = a + n + sI l by rw [sI_cons]; omega]
    exact this
theorem leftF_whl (l : List Int) (h : aI l ≤ 9007199254740992) : Whl (leftF (l.map FI)) (sI l) := by
  have := left_whl l 0 0 Whl.zero (by simpa using h)
  rwa [Int.zero_add] at this
theorem pairF_whl : ∀ (n : Nat) (l : List Int), l.length ≤ n → aI l ≤ 9007199254740992 → Whl (pairF (n + 1) (l.map FI)) (sI l) := by
  intro n
  induction n with
  | zero =>
    intro l hl _
    obtain rfl : l = [] := List.length_eq_zero_iff.1 (by omega)
    exact Whl.zero
  | succ n ih =>
    intro l hl ha
    unfold pairF
    rw [List.length_map]
    by_cases h0 : l.length = 0
    · rw [if_pos h0]
      obtain rfl : l = [] := List.length_eq_zero_iff.1 h0
      exact Whl.zero
    rw [if_neg h0]
    by_cases h1 : l.length = 1
    · rw [if_pos h1]
      obtain ⟨x, rfl⟩ := List.length_eq_one_iff.1 h1
      unfold aI at ha
      have hx := Whl.of_int x (by omega)
      show Whl (cn (FI x)) (sI [x])
      unfold FI
      rw [hx.cn, show sI [x] = x by simp [sI]]
      exact hx
    · rw [if_neg h1]
      have e := List.take_append_drop (l.length / 2) l
      have hs := sI_append (l.take (l.length / 2)) (l.drop (l.length / 2))
      rw [e] at hs
      have b1 := ih (l.take (l.length / 2)) (by rw [List.length_take]; omega) (by omega)
      have b2 := ih (l.drop (l.length / 2)) (by rw [List.length_drop]; omega) (by omega)
      rw [← List.map_take, ← List.map_drop, hs.1]
      have := sI_le l
      exact b1.add b2 (by rw [← hs.1]; omega)
theorem kahS_whl {p : Nat × Nat} {a n : Int} {x : Nat} (h1 : Whl p.1 a) (h2 : Whl p.2 0) (hx : Whl x n) (hb : a.natAbs + n.natAbs ≤ 9007199254740992) : Whl (kahS p x).1 (a + n) ∧ Whl (kahS p x).2 0 := by
  have ht := h1.add hx (by omega)
  refine ⟨ht, ?_⟩
  unfold kahS
  by_cases hg : gmB p.1 x = true
  · simp only [hg, if_true]
    have h3 := (h1.sub ht (by omega)).add hx (by omega)
    have := h2.add h3 (by omega)
    rwa [show 0 + (a - (a + n) + n) = 0 by omega] at this
  · simp only [Bool.not_eq_true] at hg
    simp only [hg, Bool.false_eq_true, if_false]
    have h3 := (hx.sub ht (by omega)).add h1 (by omega)
    have := h2.add h3 (by omega)
    rwa [show 0 + (n - (a + n) + a) = 0 by omega] at this
theorem kah_whl : ∀ (l : List Int) (p : Nat × Nat) (a : Int), Whl p.1 a → Whl p.2 0 → a.natAbs + aI l ≤ 9007199254740992 →
    Whl ((l.map FI).foldl (fun p x => kahS p (cn x)) p).1 (a + sI l) ∧ Whl ((l.map FI).foldl (fun p x => kahS p (cn x)) p).2 0
  | [], p, a, h, h', _ => by simpa [sI] using ⟨h, h'⟩
  | n :: l, p, a, h, h', hb => by
    unfold aI at hb
    have h1 := Whl.of_int n (by omega)
    have h2 := kahS_whl h h' h1 (by omega)
    have := kah_whl l _ _ h2.1 h2.2 (by omega)
    rw [List.map_cons, List.foldl_cons]
    unfold FI at *
    rw [h1.cn]
    rw [show a + sI (n :: l) = a + n + sI l by rw [sI_cons]; omega]
    exact this
theorem kahF_whl (l : List Int) (h : aI l ≤ 9007199254740992) : Whl (kahF (l.map FI)) (sI l) := by
  have h1 := kah_whl l (0, 0) 0 Whl.zero Whl.zero (by simpa using h)
  rw [Int.zero_add] at h1
  have := h1.1.add h1.2 (by have := sI_le l; omega)
  rw [Int.add_zero] at this
  exact this
theorem zS_whl : ∀ (l : List Int), aI l ≤ 9007199254740992 → zS (l.map FI) = sI l * (U1 : Int) * (U1 : Int) ∧ uS (l.map FI) = false ∧ dS (l.map FI) = false
  | [], _ => ⟨by simp [sI, zS], rfl, rfl⟩
  | n :: l, hb => by
    unfold aI at hb
    have h1 := Whl.of_int n (by omega)
    have h2 := zS_whl l (by omega)
    have h3 := flagB_fin _ h1.fn
    refine ⟨?_, ?_, ?_⟩
    · show aZ (FI n) + zS (l.map FI) = _
      unfold FI at *
      rw [h1.aZ, h2.1, sI_cons, Int.add_mul, Int.add_mul]
    · unfold uS at *
      simp only [List.map_cons, List.any_cons]
      rw [h2.2.1]; unfold FI; rw [h3.1]; rfl
    · unfold dS at *
      simp only [List.map_cons, List.any_cons]
      rw [h2.2.2]; unfold FI; rw [h3.2]; rfl
theorem sum_whl (l : List Int) (h : aI l ≤ 9007199254740992) : Whl (overA (zS (l.map FI)) (uS (l.map FI)) (dS (l.map FI)) 1) (sI l) := by
  obtain ⟨h1, h2, h3⟩ := zS_whl l h
  rw [h1, h2, h3]
  refine Whl.of_rk (F64_overA _ _ _ _) (Nat.le_trans (sI_le l) h) ?_
  rw [rk_overA]
  have h4 := rz_scale dp (-1074) (sI l * (U1 : Int)) (by decide)
  rw [show (-1074 - (dp : Int)) = -2148 by decide, show ((2 ^ dp : Nat) : Int) = (U1 : Int) from rfl] at h4
  exact h4

end Go.Proofs.Ytpegicgahbambaa
