/- Put together out of several texts: Ua Ub Uc Ud Ue Uf Ug Uh Ui Us Uj Uk Ul Um. -/
import Derived.Test.YteikihidblcljaaM11
import Derived.Test.YteikihidblcljaaM21
import Derived.Test.YteikihidblcljaaM7
import Derived.Test.YteikihidblcljaaM10
import Derived.Test.YteikihidblcljaaM4
import Derived.Test.YteikihidblcljaaM3
import Derived.StillTailTactics
import Derived.Deep.RegionHeld3
import Derived.Shelf.SlSorted.Search

/- Plain: layer 10: slopes, held values, points; none of them is a NaN. No program. -/
namespace Go.Proofs.Yteikihidblcljaa
open Go.RowKit
set_option linter.unusedSimpArgs false
set_option linter.unusedVariables false

/-- No operation here gives a NaN. -/
theorem nnAdd {u v : Nat} (hu : F64 u) (hv : F64 v) (fu : fin u = true) (hn : nn v = false) : nn (fadd u v) = false := by
  rcases ways v with ⟨h, _, _⟩ | ⟨_, hi, _⟩ | ⟨_, _, fv⟩
  · rw [h] at hn; cases hn
  · rw [fadd_fi u v hu hv fu hi]; exact hn
  · exact (rk_fadd u v hu hv fu fv).2
theorem nnSub_fi (u v : Nat) (hu : F64 u) (hv : F64 v) (h : fin u = true) (h' : inf v = true) : nn (fsub u v) = false := by
  unfold fsub Ieee.Format.sub
  rw [read_infb v hv h', read_fin u hu h]
  simp only [Ieee.Datum.opposite, Ieee.Datum.sum, Option.map_some, Option.getD_some]
  exact inf_nn _
theorem nnSub {u v : Nat} (hu : F64 u) (hv : F64 v) (fu : fin u = true) (hn : nn v = false) : nn (fsub u v) = false := by
  rcases ways v with ⟨h, _, _⟩ | ⟨_, hi, _⟩ | ⟨_, _, fv⟩
  · rw [h] at hn; cases hn
  · exact nnSub_fi u v hu hv fu hi
  · exact (rk_fsub u v hu hv fu fv).2
theorem nn_sgw (u v r : Nat) (hr : r ≤ 9218868437227405312) : nn (sgw u v + r) = false := by
  rw [← word_sgw]; exact (rk_word _ _ hr).2.1
theorem mg_le_of {x : Nat} (h : nn x = false) : mg x ≤ 9218868437227405312 := by unfold nn INF at h; simpa using h
theorem nn_of_mg {x : Nat} (h : mg x ≤ 9218868437227405312) : nn x = false := by unfold nn INF; simpa using h
/-- Divided by a number that is not 0. -/
theorem nnDiv {u v : Nat} (hu : F64 u) (hv : F64 v) (hn : nn u = false) (fv : fin v = true) (hz : mg v ≠ 0) : nn (fdiv u v) = false := by
  rcases ways u with ⟨h, _, _⟩ | ⟨_, hi, _⟩ | ⟨_, _, fu⟩
  · rw [h] at hn; cases hn
  · rw [fdiv_if u v hu hv hi fv]; exact nn_sgw _ _ _ (Nat.le_refl _)
  · rw [fdiv_ff u v hu hv fu fv hz false]
    refine nn_sgw _ _ _ ?_
    unfold overN
    split
    · rw [mg_0]; omega
    · unfold nearM; split
      · rw [mg_0]; omega
      · rw [mg_madeN]; exact Nat.min_le_right _ _
/-- A number that is not 0, divided by what is no NaN. -/
theorem nnDivF {u v : Nat} (hu : F64 u) (hv : F64 v) (fu : fin u = true) (hz : mg u ≠ 0) (hn : nn v = false) : nn (fdiv u v) = false := by
  rcases ways v with ⟨h, _, _⟩ | ⟨_, hi, _⟩ | ⟨_, _, fv⟩
  · rw [h] at hn; cases hn
  · rw [fdiv_fi u v hu hv fu hi]; exact nn_sgw u v 0 (by omega)
  · by_cases h0 : mg v = 0
    · rw [fdiv_f0 u v hu hv fu fv h0, if_neg hz]; exact nn_sgw _ _ _ (Nat.le_refl _)
    · exact nnDiv hu hv (nn_fin u fu) fv h0
/-- Times a number that is not 0. -/
theorem nnMul {u v : Nat} (hu : F64 u) (hv : F64 v) (hn : nn u = false) (fv : fin v = true) (hz : mg v ≠ 0) : nn (fmul u v) = false := by
  rcases ways u with ⟨h, _, _⟩ | ⟨_, hi, _⟩ | ⟨_, _, fu⟩
  · rw [h] at hn; cases hn
  · rw [fmul_if u v hu hv hi fv, if_neg hz]; exact nn_sgw _ _ _ (Nat.le_refl _)
  · exact (rk_fmul u v hu hv fu fv).2
/-- Two of one sign. -/
theorem nnAdd2 {u v : Nat} (hu : F64 u) (hv : F64 v) (h1 : nn u = false) (h2 : nn v = false) (hs : ng u = ng v) : nn (fadd u v) = false := by
  rcases ways u with ⟨h, _, _⟩ | ⟨_, hi, _⟩ | ⟨_, _, fu⟩
  · rw [h] at h1; cases h1
  · rcases ways v with ⟨h, _, _⟩ | ⟨_, hi', _⟩ | ⟨_, _, fv⟩
    · rw [h] at h2; cases h2
    · rw [fadd_ii u v hu hv hi hi']
      have e : u = v := by
        rw [← word_inf u hu hi, ← word_inf v hv hi', hs]
      rw [if_pos e]; exact h1
    · rw [fadd_if u v hu hv hi fv]; exact h1
  · exact nnAdd hu hv fu h2
theorem ng_sgw (u v r : Nat) (hr : r ≤ 9218868437227405312) : ng (sgw u v + r) = (ng u ^^ ng v) := by
  rw [← word_sgw]; exact (rk_word _ _ hr).2.2.2
theorem ng_fdiv {u v : Nat} (hu : F64 u) (hv : F64 v) (fu : fin u = true) (hz : mg u ≠ 0) (hn : nn v = false) : ng (fdiv u v) = (ng u ^^ ng v) := by
  rcases ways v with ⟨h, _, _⟩ | ⟨_, hi, _⟩ | ⟨_, _, fv⟩
  · rw [h] at hn; cases hn
  · rw [fdiv_fi u v hu hv fu hi]; exact ng_sgw u v 0 (by omega)
  · by_cases h0 : mg v = 0
    · rw [fdiv_f0 u v hu hv fu fv h0, if_neg hz]; exact ng_sgw _ _ _ (Nat.le_refl _)
    · rw [fdiv_ff u v hu hv fu fv h0 false]
      refine ng_sgw _ _ _ ?_
      unfold overN
      split
      · rw [mg_0]; omega
      · unfold nearM; split
        · rw [mg_0]; omega
        · rw [mg_madeN]; exact Nat.min_le_right _ _
theorem raw_of_cn {r v : Nat} (h : cn r = v) (hn : nn v = false) : r = v := by
  by_cases hr : nn r = true
  · rw [cn_nan r hr] at h; rw [← h, nn_NaNc] at hn; cases hn
  · rw [cn_of r (by simpa using hr)] at h; exact h

/-- The floats 1, 2, 3. -/
def one64 : Nat := 4607182418800017408
def two64f : Nat := 4611686018427387904
def thr64 : Nat := 4613937818241073152
theorem one_ok : F64 one64 ∧ fin one64 = true ∧ mg one64 ≠ 0 ∧ ng one64 = false ∧ FI 1 = one64 := ⟨⟨by decide⟩, by decide +kernel⟩
theorem two_ok : F64 two64f ∧ fin two64f = true ∧ mg two64f ≠ 0 ∧ FI 2 = two64f := ⟨⟨by decide⟩, by decide +kernel⟩
theorem thr_ok : F64 thr64 ∧ fin thr64 = true ∧ mg thr64 ≠ 0 ∧ FI 3 = thr64 := ⟨⟨by decide⟩, by decide +kernel⟩

/-- x below y, of numbers and infinities. -/
def ltF (x y : Nat) : Bool := !nn x && !nn y && decide (rk x < rk y)
theorem flt' (x y : Nat) (hx : F64 x) (hy : F64 y) : (FloatKind.f64.format.order x y == some .lt) = ltF x y := flt x y hx hy
theorem fgt' (x y : Nat) (hx : F64 x) (hy : F64 y) : (FloatKind.f64.format.order x y == some .gt) = ltF y x := by
  rw [fgt x y hx hy]; unfold ltF; cases nn x <;> cases nn y <;> rfl
/-- v between a and b. -/
def hld (v a b : Nat) : Nat :=
  if ltF b a then (if ltF v b then b else if ltF a v then a else v)
  else if ltF v a then a else if ltF (if rk a = rk b then a else b) v then (if rk a = rk b then a else b) else v
theorem hld_ways (v a b : Nat) : hld v a b = v ∨ hld v a b = a ∨ hld v a b = b := by
  unfold hld; repeat' split
  all_goals simp
theorem F64_hld {v a b : Nat} (h1 : F64 v) (h2 : F64 a) (h3 : F64 b) : F64 (hld v a b) := by
  rcases hld_ways v a b with h | h | h <;> rw [h] <;> assumption
theorem nn_hld {v a b : Nat} (h1 : nn v = false) (h2 : nn a = false) (h3 : nn b = false) : nn (hld v a b) = false := by
  rcases hld_ways v a b with h | h | h <;> rw [h] <;> assumption
theorem hld_bd {v a b : Nat} (h1 : nn v = false) (h2 : nn a = false) (h3 : nn b = false) : min (rk a) (rk b) ≤ rk (hld v a b) ∧ rk (hld v a b) ≤ max (rk a) (rk b) := by
  have L : ∀ x y, nn x = false → nn y = false → ltF x y = decide (rk x < rk y) := fun x y hx hy => by unfold ltF; rw [hx, hy]; rfl
  unfold hld
  by_cases e : rk a = rk b
  · rw [if_pos e, L b a h3 h2, L v b h1 h3, L a v h2 h1, L v a h1 h2]
    simp only [decide_eq_true_eq]
    repeat' split
    all_goals omega
  · rw [if_neg e, L b a h3 h2, L v b h1 h3, L a v h2 h1, L v a h1 h2, L b v h3 h1]
    simp only [decide_eq_true_eq]
    repeat' split
    all_goals omega

/-- The slope between two nodes. -/
def rsT (X : List Int) (Y : List Nat) (k : Nat) : Nat := fdiv (fsub (Y.getD (k + 1) 0) (Y.getD k 0)) (FI (X.getD (k + 1) 0 - X.getD k 0))
/-- The slope at a node between two slopes. -/
def hmT (a b : Nat) : Nat := if (ltF 0 a && ltF 0 b) || (ltF a 0 && ltF b 0) then fdiv two64f (fadd (fdiv one64 a) (fdiv one64 b)) else 0
def slT (X : List Int) (Y : List Nat) (n k : Nat) : Nat :=
  if n = 1 then 0 else if k = 0 then rsT X Y 0 else if k + 1 = n then rsT X Y (n - 2) else hmT (rsT X Y (k - 1)) (rsT X Y k)
/-- The points of a cubic. -/
def pcT (X : List Int) (Y : List Nat) (n k : Nat) : Nat := hld (fadd (Y.getD k 0) (fdiv (fmul (slT X Y n k) (FI (X.getD (k + 1) 0 - X.getD k 0))) thr64)) (Y.getD k 0) (Y.getD (k + 1) 0)
def peT (X : List Int) (Y : List Nat) (n k : Nat) : Nat := hld (fsub (Y.getD (k + 1) 0) (fdiv (fmul (slT X Y n (k + 1)) (FI (X.getD (k + 1) 0 - X.getD k 0))) thr64)) (pcT X Y n k) (Y.getD (k + 1) 0)

/-- A table that may be. -/
structure TOk (X : List Int) (Y : List Nat) (n : Nat) : Prop where
  pos : 1 ≤ n
  max : n ≤ 256
  lx : X.length = n
  ly : Y.length = n
  lo : ∀ i, i < n → 0 ≤ X.getD i 0
  hi : ∀ i, i < n → X.getD i 0 ≤ 109572
  up : ∀ i, i + 1 < n → X.getD i 0 < X.getD (i + 1) 0
  fn : ∀ i, i < n → fin (Y.getD i 0) = true
  wf : ∀ i, F64 (Y.getD i 0)

theorem FI_ok {m : Int} (h0 : m ≠ 0) (h1 : m.natAbs ≤ 9007199254740992) : F64 (FI m) ∧ fin (FI m) = true ∧ mg (FI m) ≠ 0 := by
  have h := Whl.of_int m h1
  refine ⟨h.wf, h.fn, fun hz => ?_⟩
  have h2 : SV (FI m) = m * (U1 : Int) := h.sv
  rw [SV_mg0 (FI m) hz] at h2
  have := U1_pos
  rcases Int.mul_eq_zero.1 h2.symm with h3 | h3 <;> omega
theorem TOk.step {X : List Int} {Y : List Nat} {n : Nat} (h : TOk X Y n) {k : Nat} (hk : k + 1 < n) : 1 ≤ X.getD (k + 1) 0 - X.getD k 0 ∧ X.getD (k + 1) 0 - X.getD k 0 ≤ 109572 := by
  have := h.up k hk; have := h.lo k (by omega); have := h.hi (k + 1) hk; omega
theorem TOk.fi {X : List Int} {Y : List Nat} {n : Nat} (h : TOk X Y n) {k : Nat} (hk : k + 1 < n) : F64 (FI (X.getD (k + 1) 0 - X.getD k 0)) ∧ fin (FI (X.getD (k + 1) 0 - X.getD k 0)) = true ∧ mg (FI (X.getD (k + 1) 0 - X.getD k 0)) ≠ 0 := by
  have := h.step hk
  exact FI_ok (by omega) (by omega)
theorem nn_rsT {X : List Int} {Y : List Nat} {n k : Nat} (h : TOk X Y n) (hk : k + 1 < n) : nn (rsT X Y k) = false := by
  obtain ⟨f1, f2, f3⟩ := h.fi hk
  exact nnDiv (F64_fsub _ _) f1 (nnSub (h.wf _) (h.wf _) (h.fn _ hk) (nn_fin _ (h.fn _ (by omega)))) f2 f3
theorem F64_rsT (X : List Int) (Y : List Nat) (k : Nat) : F64 (rsT X Y k) := F64_fdiv _ _
theorem F64_hmT (a b : Nat) : F64 (hmT a b) := by unfold hmT; split; exact F64_fdiv _ _; exact ⟨by decide⟩
theorem ltF_ng {a : Nat} (h : ltF 0 a = true) : ng a = false := by
  unfold ltF at h
  simp at h
  have : rk 0 = 0 := by decide +kernel
  cases hn : ng a
  · rfl
  · rw [rk_of_neg hn] at h; omega
theorem ltF_ng' {a : Nat} (h : ltF a 0 = true) : ng a = true := by
  unfold ltF at h
  simp at h
  have : rk 0 = 0 := by decide +kernel
  cases hn : ng a
  · rw [rk_of_pos hn] at h; omega
  · rfl
theorem nn_hmT {a b : Nat} (ha : F64 a) (hb : F64 b) (na : nn a = false) (nb : nn b = false) : nn (hmT a b) = false := by
  unfold hmT
  obtain ⟨o1, o2, o3, o4, _⟩ := one_ok
  obtain ⟨t1, t2, t3, _⟩ := two_ok
  split
  · rename_i h
    have hs : ng a = ng b := by
      simp only [Bool.or_eq_true, Bool.and_eq_true] at h
      rcases h with ⟨h1, h2⟩ | ⟨h1, h2⟩
      · rw [ltF_ng h1, ltF_ng h2]
      · rw [ltF_ng' h1, ltF_ng' h2]
    refine nnDivF t1 (F64_fadd _ _) t2 t3 (nnAdd2 (F64_fdiv _ _) (F64_fdiv _ _) (nnDivF o1 ha o2 o3 na) (nnDivF o1 hb o2 o3 nb) ?_)
    rw [ng_fdiv o1 ha o2 o3 na, ng_fdiv o1 hb o2 o3 nb, hs]
  · decide +kernel
theorem F64_slT (X : List Int) (Y : List Nat) (n k : Nat) : F64 (slT X Y n k) := by
  unfold slT; repeat' split
  · exact ⟨by decide⟩
  · exact F64_rsT _ _ _
  · exact F64_rsT _ _ _
  · exact F64_hmT _ _
theorem nn_slT {X : List Int} {Y : List Nat} {n k : Nat} (h : TOk X Y n) (hk : k < n) : nn (slT X Y n k) = false := by
  unfold slT
  split
  · decide +kernel
  · split
    · exact nn_rsT h (by omega)
    · split
      · exact nn_rsT h (by omega)
      · exact nn_hmT (F64_rsT _ _ _) (F64_rsT _ _ _) (nn_rsT h (by omega)) (nn_rsT h (by omega))
theorem nn_thr {X : List Int} {Y : List Nat} {n k j : Nat} (h : TOk X Y n) (hk : k + 1 < n) (hj : j < n) : nn (fdiv (fmul (slT X Y n j) (FI (X.getD (k + 1) 0 - X.getD k 0))) thr64) = false := by
  obtain ⟨f1, f2, f3⟩ := h.fi hk
  obtain ⟨t1, t2, t3, _⟩ := thr_ok
  exact nnDiv (F64_fmul _ _) t1 (nnMul (F64_slT _ _ _ _) f1 (nn_slT h hj) f2 f3) t2 t3
theorem F64_pcT {X : List Int} {Y : List Nat} {n k : Nat} (h : TOk X Y n) : F64 (pcT X Y n k) := F64_hld (F64_fadd _ _) (h.wf _) (h.wf _)
theorem F64_peT {X : List Int} {Y : List Nat} {n k : Nat} (h : TOk X Y n) : F64 (peT X Y n k) := F64_hld (F64_fsub _ _) (F64_pcT h) (h.wf _)
theorem pc_ok {X : List Int} {Y : List Nat} {n k : Nat} (h : TOk X Y n) (hk : k + 1 < n) :
    nn (pcT X Y n k) = false ∧ min (rk (Y.getD k 0)) (rk (Y.getD (k + 1) 0)) ≤ rk (pcT X Y n k) ∧ rk (pcT X Y n k) ≤ max (rk (Y.getD k 0)) (rk (Y.getD (k + 1) 0)) := by
  have n1 := nn_fin _ (h.fn k (by omega))
  have n2 := nn_fin _ (h.fn (k + 1) hk)
  have nv : nn (fadd (Y.getD k 0) (fdiv (fmul (slT X Y n k) (FI (X.getD (k + 1) 0 - X.getD k 0))) thr64)) = false := nnAdd (h.wf _) (F64_fdiv _ _) (h.fn k (by omega)) (nn_thr h hk (by omega))
  exact ⟨nn_hld nv n1 n2, hld_bd nv n1 n2⟩
theorem pe_ok {X : List Int} {Y : List Nat} {n k : Nat} (h : TOk X Y n) (hk : k + 1 < n) :
    nn (peT X Y n k) = false ∧ min (rk (pcT X Y n k)) (rk (Y.getD (k + 1) 0)) ≤ rk (peT X Y n k) ∧ rk (peT X Y n k) ≤ max (rk (pcT X Y n k)) (rk (Y.getD (k + 1) 0)) := by
  have n1 := (pc_ok h hk).1
  have n2 := nn_fin _ (h.fn (k + 1) hk)
  have nv : nn (fsub (Y.getD (k + 1) 0) (fdiv (fmul (slT X Y n (k + 1)) (FI (X.getD (k + 1) 0 - X.getD k 0))) thr64)) = false := nnSub (h.wf _) (F64_fdiv _ _) (h.fn (k + 1) hk) (nn_thr h hk hk)
  exact ⟨nn_hld nv n1 n2, hld_bd nv n1 n2⟩
theorem fin_rk2 {x a b : Nat} (hn : nn x = false) (fa : fin a = true) (fb : fin b = true) (h1 : min (rk a) (rk b) ≤ rk x) (h2 : rk x ≤ max (rk a) (rk b)) : fin x = true := by
  have := (rk_fin a).1 fa
  have := (rk_fin b).1 fb
  exact (rk_fin x).2 (by omega)
theorem fin_pcT {X : List Int} {Y : List Nat} {n k : Nat} (h : TOk X Y n) (hk : k + 1 < n) : fin (pcT X Y n k) = true :=
  fin_rk2 (pc_ok h hk).1 (h.fn k (by omega)) (h.fn (k + 1) hk) (pc_ok h hk).2.1 (pc_ok h hk).2.2
theorem fin_peT {X : List Int} {Y : List Nat} {n k : Nat} (h : TOk X Y n) (hk : k + 1 < n) : fin (peT X Y n k) = true :=
  fin_rk2 (pe_ok h hk).1 (fin_pcT h hk) (h.fn (k + 1) hk) (pe_ok h hk).2.1 (pe_ok h hk).2.2

end Go.Proofs.Yteikihidblcljaa

/- Plain: layer 10: what is wrong with a table; the node at a place or ahead of it. No program. -/
namespace Go.Proofs.Yteikihidblcljaa
open Go.RowKit
set_option linter.unusedSimpArgs false
set_option linter.unusedVariables false

/-- Is a node good, behind p? -/
def ndB (kind p x : Int) (y : Nat) : Bool := decide (p < x) && decide (x ≤ 109572) && fin y && (!(kind == 4) || ltF 0 y)
def prv (X : List Int) (i : Nat) : Int := if i = 0 then -1 else X.getD (i - 1) 0
def ndA (kind : Int) (X : List Int) (Y : List Nat) (i : Nat) : Bool := ndB kind (prv X i) (X.getD i 0) (Y.getD i 0)
def knB (kind : Int) : Bool := decide (1 ≤ kind) && decide (kind ≤ 4)
def lnB (X : List Int) (Y : List Nat) : Bool := decide (1 ≤ X.length) && decide (X.length ≤ 256) && decide (X.length = Y.length)
/-- What is wrong with a table. -/
def chkT (kind : Int) (X : List Int) (Y : List Nat) : Int :=
  if knB kind then (if lnB X Y then (if (List.range X.length).all (ndA kind X Y) then 0 else 100) else 100) else 90

theorem chk_kind {kind : Int} {X : List Int} {Y : List Nat} (h : knB kind = false) : chkT kind X Y = 90 := by unfold chkT; rw [h]; rfl
theorem chk_len {kind : Int} {X : List Int} {Y : List Nat} (h : knB kind = true) (h1 : lnB X Y = false) : chkT kind X Y = 100 := by unfold chkT; rw [h, h1]; rfl
theorem chk_node {kind : Int} {X : List Int} {Y : List Nat} (h : knB kind = true) (h1 : lnB X Y = true) {i : Nat} (hi : i < X.length) (h2 : ndA kind X Y i = false) : chkT kind X Y = 100 := by
  unfold chkT; rw [h, h1]
  have : (List.range X.length).all (ndA kind X Y) = false := by
    rw [List.all_eq_false]; exact ⟨i, List.mem_range.2 hi, by simp [h2]⟩
  rw [this]; rfl
theorem chk_good {kind : Int} {X : List Int} {Y : List Nat} (h : knB kind = true) (h1 : lnB X Y = true) (h2 : ∀ i, i < X.length → ndA kind X Y i = true) : chkT kind X Y = 0 := by
  unfold chkT; rw [h, h1]
  have : (List.range X.length).all (ndA kind X Y) = true := by
    rw [List.all_eq_true]; intro i hi; exact h2 i (List.mem_range.1 hi)
  rw [this]; rfl
theorem chk_ways (kind : Int) (X : List Int) (Y : List Nat) : chkT kind X Y = 0 ∨ chkT kind X Y = 90 ∨ chkT kind X Y = 100 := by
  unfold chkT; repeat' split
  all_goals simp

/-- A good table. -/
theorem chk_ok {kind : Int} {X : List Int} {Y : List Nat} (h : chkT kind X Y = 0) (hw : ∀ i, F64 (Y.getD i 0)) :
    TOk X Y X.length ∧ 1 ≤ kind ∧ kind ≤ 4 ∧ (kind = 4 → ∀ i, i < X.length → ltF 0 (Y.getD i 0) = true) := by
  unfold chkT at h
  split at h
  · rename_i hk
    split at h
    · rename_i hl
      split at h
      · rename_i ha
        unfold knB at hk
        unfold lnB at hl
        simp only [Bool.and_eq_true, decide_eq_true_eq] at hk hl
        rw [List.all_eq_true] at ha
        have key : ∀ i, i < X.length → prv X i < X.getD i 0 ∧ X.getD i 0 ≤ 109572 ∧ fin (Y.getD i 0) = true ∧ (kind = 4 → ltF 0 (Y.getD i 0) = true) := fun i hi => by
          have := ha i (List.mem_range.2 hi)
          unfold ndA ndB at this
          simp only [Bool.and_eq_true, decide_eq_true_eq, Bool.or_eq_true, Bool.not_eq_true', beq_eq_false_iff_ne] at this
          obtain ⟨⟨⟨a, b⟩, c⟩, d⟩ := this
          exact ⟨a, b, c, fun e => d.resolve_left (fun hn => hn e)⟩
        have up : ∀ i, i + 1 < X.length → X.getD i 0 < X.getD (i + 1) 0 := fun i hi => by
          have := (key (i + 1) hi).1
          unfold prv at this
          rwa [if_neg (by omega), Nat.add_sub_cancel] at this
        have lo : ∀ i, i < X.length → 0 ≤ X.getD i 0 := by
          intro i
          induction i with
          | zero => intro hi; have := (key 0 hi).1; unfold prv at this; rw [if_pos rfl] at this; omega
          | succ i ih => intro hi; have := up i hi; have := ih (by omega); omega
        exact ⟨{ pos := hl.1.1, max := hl.1.2, lx := rfl, ly := hl.2.symm, lo := lo, hi := fun i hi => (key i hi).2.1, up := up, fn := fun i hi => (key i hi).2.2.1, wf := hw }, hk.1, hk.2, fun e i hi => (key i hi).2.2.2 e⟩
      · cases h
    · cases h
  · cases h

/-- The last node at x or ahead of it. -/
def fndT (X : List Int) (x : Int) : Nat := X.countP (fun y => !decide (x + 1 ≤ y)) - 1
theorem count_split (X : List Int) (x : Int) (k : Nat) (hk : k ≤ X.length) (h1 : ∀ i, i < k → X.getD i 0 ≤ x) (h2 : ∀ i, k ≤ i → i < X.length → x < X.getD i 0) : X.countP (fun y => !decide (x + 1 ≤ y)) = k := by
  rw [← List.take_append_drop k X, List.countP_append]
  have a : (X.take k).countP (fun y => !decide (x + 1 ≤ y)) = (X.take k).length := by
    rw [List.countP_eq_length]
    intro y hy
    obtain ⟨i, hi, e⟩ := List.getElem_of_mem hy
    rw [List.length_take] at hi
    have := h1 i (by omega)
    rw [List.getElem_take] at e
    rw [List.getD_eq_getElem?_getD, List.getElem?_eq_getElem (by omega), Option.getD_some, e] at this
    simp; omega
  have b : (X.drop k).countP (fun y => !decide (x + 1 ≤ y)) = 0 := by
    rw [List.countP_eq_zero]
    intro y hy
    obtain ⟨i, hi, e⟩ := List.getElem_of_mem hy
    rw [List.length_drop] at hi
    have := h2 (k + i) (by omega) (by omega)
    rw [List.getElem_drop] at e
    rw [List.getD_eq_getElem?_getD, List.getElem?_eq_getElem (by omega), Option.getD_some, e] at this
    simp; omega
  rw [a, b, List.length_take]; omega
theorem up_le {X : List Int} {n : Nat} (up : ∀ i, i + 1 < n → X.getD i 0 < X.getD (i + 1) 0) : ∀ {j i : Nat}, i ≤ j → j < n → X.getD i 0 ≤ X.getD j 0 ∧ (i < j → X.getD i 0 < X.getD j 0) := by
  intro j
  induction j with
  | zero => intro i h1 _; obtain rfl : i = 0 := by omega
            exact ⟨Int.le_refl _, fun h => by omega⟩
  | succ j ih =>
    intro i h1 h2
    by_cases e : i = j + 1
    · subst e; exact ⟨Int.le_refl _, fun h => by omega⟩
    · have a := ih (i := i) (by omega) (by omega)
      have b := up j h2
      exact ⟨by omega, fun _ => by omega⟩
theorem fnd_eq {X : List Int} {Y : List Nat} {n : Nat} (h : TOk X Y n) {x : Int} {k : Nat} (hk : k < n) (h1 : X.getD k 0 ≤ x) (h2 : k + 1 < n → x < X.getD (k + 1) 0) : X.countP (fun y => !decide (x + 1 ≤ y)) = k + 1 := by
  have hl := h.lx
  refine count_split X x (k + 1) (by omega) (fun i hi => ?_) (fun i hi hi2 => ?_)
  · have := (up_le h.up (show i ≤ k by omega) hk).1; omega
  · have := (up_le h.up hi (by omega)).1
    have := h2 (by omega); omega
theorem fnd_ex {X : List Int} {Y : List Nat} {n : Nat} (h : TOk X Y n) {x : Int} (h0 : X.getD 0 0 ≤ x) : ∃ k, k < n ∧ X.getD k 0 ≤ x ∧ (k + 1 < n → x < X.getD (k + 1) 0) := by
  have key : ∀ m, m < n → (∃ k, k < n ∧ X.getD k 0 ≤ x ∧ (k + 1 < n → x < X.getD (k + 1) 0)) ∨ X.getD m 0 ≤ x := by
    intro m
    induction m with
    | zero => intro _; exact .inr h0
    | succ m ih =>
      intro hm
      rcases ih (by omega) with h1 | h1
      · exact .inl h1
      · by_cases h2 : X.getD (m + 1) 0 ≤ x
        · exact .inr h2
        · exact .inl ⟨m, by omega, h1, fun _ => by omega⟩
  have hp := h.pos
  rcases key (n - 1) (by omega) with h1 | h1
  · exact h1
  · exact ⟨n - 1, by omega, h1, fun h => by omega⟩
theorem fnd_ok {X : List Int} {Y : List Nat} {n : Nat} (h : TOk X Y n) {x : Int} (h0 : X.getD 0 0 ≤ x) : fndT X x < n ∧ X.getD (fndT X x) 0 ≤ x ∧ (fndT X x + 1 < n → x < X.getD (fndT X x + 1) 0) ∧ X.countP (fun y => !decide (x + 1 ≤ y)) = fndT X x + 1 := by
  obtain ⟨k, hk, h1, h2⟩ := fnd_ex h h0
  have e := fnd_eq h hk h1 h2
  have e2 : fndT X x = k := by unfold fndT; rw [e]; rfl
  rw [e2]
  exact ⟨hk, h1, h2, e⟩
theorem fnd_is {X : List Int} {Y : List Nat} {n : Nat} (h : TOk X Y n) {x : Int} {k : Nat} (hk : k < n) (h1 : X.getD k 0 ≤ x) (h2 : k + 1 < n → x < X.getD (k + 1) 0) : fndT X x = k := by
  unfold fndT; rw [fnd_eq h hk h1 h2]; rfl

end Go.Proofs.Yteikihidblcljaa

/- Plain: layer 10: a sum over a whole number goes with the sum; values between two nodes. No program. -/
namespace Go.Proofs.Yteikihidblcljaa
open Go.RowKit
set_option linter.unusedSimpArgs false
set_option linter.unusedVariables false

/-- Twice a quotient, and one more, if something is left. -/
def qd (Z n : Nat) : Nat := 2 * (Z / n) + (if Z % n = 0 then 0 else 1)
def qz (z : Int) (n : Nat) : Int := if z < 0 then -(qd z.natAbs n : Int) else qd z.natAbs n
theorem qd_rnd (Z n : Nat) : rnd (Z / n) (-2148) (nz (Z % n)) = rnd (qd Z n) (-2149) false := by
  have h1 : qd Z n / 2 ^ 1 = Z / n := by unfold qd; split <;> omega
  have h2 : qd Z n % 2 ^ 1 = (if Z % n = 0 then 0 else 1) := by unfold qd; split <;> omega
  have := rnd_sticky0 (qd Z n) 1 (-2148) false (nz (Z % n)) (by decide) (by
    rw [h2, nz_iff]
    by_cases h : Z % n = 0
    · rw [if_pos h]; simp [h]
    · rw [if_neg h]; simp [h])
  rw [h1] at this
  rw [← this]; rfl
theorem rk_over (z : Int) (n : Nat) : rk (overA z false false n) = rz (-2149) (qz z n) := by
  unfold overA nearZ
  simp only [Bool.false_and, Bool.false_eq_true, if_false]
  rw [qd_rnd, madeN_word, (rk_word _ _ (Nat.min_le_right _ _)).1]
  unfold rz qz
  by_cases h : z < 0
  · rw [if_pos (by simpa using h)]
    by_cases h0 : qd z.natAbs n = 0
    · rw [if_pos h, h0]
      rw [if_neg (by decide)]
      rw [show ((-((0 : Nat) : Int)).natAbs) = 0 from rfl, rnd_zero _ (by decide)]
      rfl
    · rw [if_pos h, if_pos (by omega), Int.natAbs_neg, Int.natAbs_natCast]
  · rw [if_neg (by simpa using h), if_neg h, if_neg (by omega), Int.natAbs_natCast]
theorem qd_mono {Z Z' n : Nat} (hn : 0 < n) (h : Z ≤ Z') : qd Z n ≤ qd Z' n := by
  have h1 : Z / n ≤ Z' / n := Nat.div_le_div_right h
  unfold qd
  rcases Nat.lt_or_ge (Z / n) (Z' / n) with h2 | h2
  · split <;> split <;> omega
  · have e : Z / n = Z' / n := by omega
    have a := Nat.div_add_mod Z n
    have b := Nat.div_add_mod Z' n
    rw [e] at a ⊢
    generalize n * (Z' / n) = p at *
    split <;> split <;> omega
theorem qz_mono {z z' : Int} {n : Nat} (hn : 0 < n) (h : z ≤ z') : qz z n ≤ qz z' n := by
  unfold qz
  split
  · rename_i h1
    split
    · have := qd_mono hn (show z'.natAbs ≤ z.natAbs by omega); omega
    · omega
  · rw [if_neg (by omega)]
    have := qd_mono hn (show z.natAbs ≤ z'.natAbs by omega); omega
theorem over_mono {z z' : Int} {n : Nat} (hn : 0 < n) (h : z ≤ z') : rk (overA z false false n) ≤ rk (overA z' false false n) := by
  rw [rk_over, rk_over]; exact rz_mono _ (by decide) (qz_mono hn h)
theorem qz_mul (y : Int) {n : Nat} (hn : 0 < n) : qz (y * n) n = y * 2 := by
  have h1 : (y * n).natAbs = y.natAbs * n := by rw [Int.natAbs_mul, Int.natAbs_natCast]
  unfold qz qd
  rw [h1, Nat.mul_div_cancel _ hn, Nat.mul_mod_left, if_pos rfl]
  have hp : (0 : Int) < n := by omega
  by_cases h : y < 0
  · rw [if_pos (Int.mul_neg_of_neg_of_pos h hp)]; omega
  · rw [if_neg (Int.not_lt.2 (Int.mul_nonneg (by omega) (by omega)))]; omega
/-- The sum of n times a float, over n, is the float. -/
theorem over_exact (x : Nat) {n : Nat} (hn : 0 < n) (h : fin x = true) : rk (overA (SV x * (U1 : Int) * n) false false n) = rk x := by
  rw [rk_over, qz_mul _ hn, show (-2149 : Int) = -2148 - ((1 : Nat) : Int) from rfl, show (2 : Int) = ((2 ^ 1 : Nat) : Int) from rfl, rz_scale 1 (-2148) _ (by decide)]
  have h1 : (U1 : Int) = ((2 ^ dp : Nat) : Int) := rfl
  have h2 : (-2148 : Int) = -1074 - (dp : Int) := by rw [dp_eq]; rfl
  rw [h1, h2, rz_scale dp (-1074) _ (by decide), rz_SV x h]
/-- A sum between n times two floats, over n, lies between them. -/
theorem over_between {z : Int} {lo hi n : Nat} (hn : 0 < n) (fl : fin lo = true) (fh : fin hi = true) (h1 : SV lo * (U1 : Int) * n ≤ z) (h2 : z ≤ SV hi * (U1 : Int) * n) :
    rk lo ≤ rk (overA z false false n) ∧ rk (overA z false false n) ≤ rk hi := by
  rw [← over_exact lo hn fl, ← over_exact hi hn fh]
  exact ⟨over_mono hn h1, over_mono hn h2⟩

/-- Weighted sums: their exact value. -/
theorem zD_cons (m : Int) (l : List Int) (y : Nat) (Y : List Nat) (hm : m.natAbs ≤ 9007199254740992) (hy : fin y = true) :
    zD ((m :: l).map FI) (y :: Y) = m * SV y * (U1 : Int) + zD (l.map FI) Y ∧ uD ((m :: l).map FI) (y :: Y) = uD (l.map FI) Y ∧ dD ((m :: l).map FI) (y :: Y) = dD (l.map FI) Y := by
  have h := Whl.of_int m hm
  have hf : fin (FI m) = true := h.fn
  have hs : SV (FI m) = m * (U1 : Int) := h.sv
  have p1 : pZ (FI m) y = m * SV y * (U1 : Int) := by
    unfold pZ
    rw [hf, hy, Bool.and_self, if_pos rfl, hs, Int.mul_right_comm]
  have p2 : puB (FI m) y = false := by unfold puB; rw [hf, hy]; rfl
  have p3 : pdB (FI m) y = false := by unfold pdB; rw [hf, hy]; rfl
  refine ⟨?_, ?_, ?_⟩
  · rw [List.map_cons]
    show pZ (FI m) y + zD (l.map FI) Y = _
    rw [p1]
  · rw [List.map_cons]
    show (puB (FI m) y || uD (l.map FI) Y) = _
    rw [p2, Bool.false_or]
  · rw [List.map_cons]
    show (pdB (FI m) y || dD (l.map FI) Y) = _
    rw [p3, Bool.false_or]
theorem zD_nil : zD ([].map FI) ([] : List Nat) = 0 ∧ uD (([] : List Int).map FI) ([] : List Nat) = false ∧ dD (([] : List Int).map FI) ([] : List Nat) = false := ⟨rfl, rfl, rfl⟩
theorem zD_two (p q : Int) (a b : Nat) (hp : p.natAbs ≤ 9007199254740992) (hq : q.natAbs ≤ 9007199254740992) (fa : fin a = true) (fb : fin b = true) :
    zD ([p, q].map FI) [a, b] = (p * SV a + q * SV b) * (U1 : Int) ∧ uD ([p, q].map FI) [a, b] = false ∧ dD ([p, q].map FI) [a, b] = false := by
  obtain ⟨a1, a2, a3⟩ := zD_cons p [q] a [b] hp fa
  obtain ⟨b1, b2, b3⟩ := zD_cons q [] b [] hq fb
  rw [a1, a2, a3, b1, b2, b3, zD_nil.1, zD_nil.2.1, zD_nil.2.2]
  refine ⟨?_, rfl, rfl⟩
  rw [Int.add_zero, Int.add_mul]
theorem zD_four (p q r s : Int) (a b c d : Nat) (hp : p.natAbs ≤ 9007199254740992) (hq : q.natAbs ≤ 9007199254740992) (hr : r.natAbs ≤ 9007199254740992) (hs : s.natAbs ≤ 9007199254740992) (fa : fin a = true) (fb : fin b = true) (fc : fin c = true) (fd : fin d = true) :
    zD ([p, q, r, s].map FI) [a, b, c, d] = (p * SV a + q * SV b + r * SV c + s * SV d) * (U1 : Int) ∧ uD ([p, q, r, s].map FI) [a, b, c, d] = false ∧ dD ([p, q, r, s].map FI) [a, b, c, d] = false := by
  obtain ⟨a1, a2, a3⟩ := zD_cons p [q, r, s] a [b, c, d] hp fa
  obtain ⟨b1, b2, b3⟩ := zD_cons q [r, s] b [c, d] hq fb
  obtain ⟨c1, c2, c3⟩ := zD_two r s c d hr hs fc fd
  rw [a1, a2, a3, b1, b2, b3, c1, c2, c3]
  refine ⟨?_, rfl, rfl⟩
  rw [Int.add_mul, Int.add_mul, Int.add_mul, Int.add_mul]
  omega

end Go.Proofs.Yteikihidblcljaa

/- Plain: layer 10: what a place holds; it lies between the two nodes' values. No program. -/
namespace Go.Proofs.Yteikihidblcljaa
open Go.RowKit
set_option linter.unusedSimpArgs false
set_option linter.unusedVariables false

/-- The sum of whole weights times values, over n. -/
def wsT (n : Nat) (w : List Int) (y : List Nat) : Nat := overA (zD (w.map FI) y) (uD (w.map FI) y) (dD (w.map FI) y) n
/-- The weights of a cubic. -/
def cwT (j i : Int) : List Int := [j * j * j, 3 * j * j * i, 3 * j * i * i, i * i * i]
/-- What lies i of h steps behind the node k. -/
def btT (kind : Int) (X : List Int) (Y : List Nat) (k : Nat) (i h : Int) : Nat :=
  if kind = 1 then Y.getD k 0
  else if kind = 2 then wsT h.toNat [h - i, i] [Y.getD k 0, Y.getD (k + 1) 0]
  else if kind = 3 then wsT (h * h * h).toNat (cwT (h - i) i) [Y.getD k 0, pcT X Y X.length k, peT X Y X.length k, Y.getD (k + 1) 0]
  else hld (fexp (wsT h.toNat [h - i, i] [fln (Y.getD k 0), fln (Y.getD (k + 1) 0)])) (Y.getD k 0) (Y.getD (k + 1) 0)
def lastT (X : List Int) : Int := X.getD (X.length - 1) 0
/-- The value at a place, and what is wrong. -/
def atT (kind : Int) (X : List Int) (Y : List Nat) (x : Int) : Nat × Int :=
  if chkT kind X Y = 0 then
    (if x < X.getD 0 0 ∨ lastT X < x then (0, 51)
     else if X.getD (fndT X x) 0 = x then (Y.getD (fndT X x) 0, 0)
     else (btT kind X Y (fndT X x) (x - X.getD (fndT X x) 0) (X.getD (fndT X x + 1) 0 - X.getD (fndT X x) 0), 0))
  else (0, chkT kind X Y)

theorem cube_bd {i h : Int} (h0 : 0 ≤ i) (h1 : i ≤ h) (h2 : h ≤ 109572) : 0 ≤ i * i ∧ i * i ≤ 12006023184 ∧ 0 ≤ i * i * i ∧ i * i * i ≤ 1315523972317248 := by
  have a : 0 ≤ i * i := Int.mul_nonneg h0 h0
  have b : i * i ≤ 109572 * 109572 := Int.mul_le_mul (by omega) (by omega) h0 (by decide)
  have c : 0 ≤ i * i * i := Int.mul_nonneg a h0
  have d : i * i * i ≤ (109572 * 109572) * 109572 := Int.mul_le_mul b (by omega) h0 (by decide)
  exact ⟨a, by omega, c, by omega⟩
theorem mix_bd {i j : Int} (h0 : 0 ≤ i) (h1 : i ≤ 109572) (g0 : 0 ≤ j) (g1 : j ≤ 109572) : 0 ≤ 3 * j * j * i ∧ 3 * j * j * i ≤ 3946571916951744 ∧ 0 ≤ 3 * j * i * i ∧ 3 * j * i * i ≤ 3946571916951744 := by
  have a := cube_bd h0 (Int.le_refl _) h1
  have b := cube_bd g0 (Int.le_refl _) g1
  have c : 0 ≤ j * j * i := Int.mul_nonneg b.1 h0
  have d : j * j * i ≤ 12006023184 * 109572 := Int.mul_le_mul b.2.1 h1 h0 (by decide)
  have e : 0 ≤ j * (i * i) := Int.mul_nonneg g0 a.1
  have f : j * (i * i) ≤ 109572 * 12006023184 := Int.mul_le_mul g1 a.2.1 a.1 (by decide)
  have p : 3 * j * j * i = 3 * (j * j * i) := by simp only [Int.mul_assoc]
  have q : 3 * j * i * i = 3 * (j * (i * i)) := by simp only [Int.mul_assoc]
  rw [p, q]
  omega
/-- The weights of a cubic together are the cube. -/
theorem cube_sum (i j : Int) : j * j * j + 3 * j * j * i + 3 * j * i * i + i * i * i = (j + i) * (j + i) * (j + i) := by
  have a : 3 * j * j * i = j * j * i + j * j * i + j * j * i := by rw [Int.mul_assoc, Int.mul_assoc]; have : j * (j * i) = j * j * i := (Int.mul_assoc _ _ _).symm; omega
  have b : 3 * j * i * i = j * i * i + j * i * i + j * i * i := by rw [Int.mul_assoc, Int.mul_assoc]; have : j * (i * i) = j * i * i := (Int.mul_assoc _ _ _).symm; omega
  rw [a, b]
  simp only [Int.mul_add, Int.add_mul]
  have c1 : i * j * j = j * j * i := by rw [Int.mul_comm i j, Int.mul_assoc, Int.mul_comm i j, ← Int.mul_assoc]
  have c2 : j * i * j = j * j * i := by rw [Int.mul_assoc, Int.mul_comm i j, ← Int.mul_assoc]
  have c3 : i * i * j = j * i * i := by rw [Int.mul_comm (i * i) j, ← Int.mul_assoc]
  have c4 : i * j * i = j * i * i := by rw [Int.mul_comm i j]
  rw [c1, c2, c3, c4]
  omega

theorem mul_le3 {a b c : Int} (h : 0 ≤ a) (k : b ≤ c) : a * b ≤ a * c := Int.mul_le_mul_of_nonneg_left k h
/-- Two weighted values. -/
theorem ws_two {h i : Int} {a b lo hi : Nat} (h0 : 0 ≤ i) (h1 : i ≤ h) (h2 : 1 ≤ h) (h3 : h ≤ 109572) (fa : fin a = true) (fb : fin b = true) (fl : fin lo = true) (fh : fin hi = true)
    (la : rk lo ≤ rk a) (lb : rk lo ≤ rk b) (ha : rk a ≤ rk hi) (hb : rk b ≤ rk hi) :
    nn (wsT h.toNat [h - i, i] [a, b]) = false ∧ rk lo ≤ rk (wsT h.toNat [h - i, i] [a, b]) ∧ rk (wsT h.toNat [h - i, i] [a, b]) ≤ rk hi := by
  obtain ⟨z1, z2, z3⟩ := zD_two (h - i) i a b (by omega) (by omega) fa fb
  unfold wsT
  rw [z1, z2, z3]
  refine ⟨nn_overA _ _, ?_⟩
  have hU : (0 : Int) ≤ (U1 : Int) := by have := U1_pos; omega
  have e : ((h.toNat : Nat) : Int) = h := by omega
  have key : ∀ x y : Int, (h - i) * x + i * x = x * h := fun x y => by rw [← Int.add_mul, show h - i + i = h by omega, Int.mul_comm]
  refine over_between (by omega) fl fh ?_ ?_
  · rw [e, Int.mul_right_comm]
    refine Int.mul_le_mul_of_nonneg_right ?_ hU
    rw [← key (SV lo) 0]
    have := mul_le3 (show 0 ≤ h - i by omega) (SV_le.2 la)
    have := mul_le3 h0 (SV_le.2 lb)
    omega
  · rw [e, Int.mul_right_comm]
    refine Int.mul_le_mul_of_nonneg_right ?_ hU
    rw [← key (SV hi) 0]
    have := mul_le3 (show 0 ≤ h - i by omega) (SV_le.2 ha)
    have := mul_le3 h0 (SV_le.2 hb)
    omega
theorem cw_bd {h i : Int} (h0 : 0 ≤ i) (h1 : i ≤ h) (h3 : h ≤ 109572) :
    0 ≤ (h - i) * (h - i) * (h - i) ∧ (h - i) * (h - i) * (h - i) ≤ 1315523972317248 ∧ 0 ≤ 3 * (h - i) * (h - i) * i ∧ 3 * (h - i) * (h - i) * i ≤ 3946571916951744 ∧
    0 ≤ 3 * (h - i) * i * i ∧ 3 * (h - i) * i * i ≤ 3946571916951744 ∧ 0 ≤ i * i * i ∧ i * i * i ≤ 1315523972317248 := by
  have a := cube_bd h0 h1 h3
  have b := cube_bd (i := h - i) (by omega) (show h - i ≤ h by omega) h3
  have c := mix_bd h0 (show i ≤ 109572 by omega) (show 0 ≤ h - i by omega) (show h - i ≤ 109572 by omega)
  exact ⟨b.2.2.1, b.2.2.2, c.1, c.2.1, c.2.2.1, c.2.2.2, a.2.2.1, a.2.2.2⟩
theorem zD_cw {h i : Int} {a b c d : Nat} (h0 : 0 ≤ i) (h1 : i ≤ h) (h3 : h ≤ 109572) (fa : fin a = true) (fb : fin b = true) (fc : fin c = true) (fd : fin d = true) :
    zD ((cwT (h - i) i).map FI) [a, b, c, d] = ((h - i) * (h - i) * (h - i) * SV a + 3 * (h - i) * (h - i) * i * SV b + 3 * (h - i) * i * i * SV c + i * i * i * SV d) * (U1 : Int) ∧ uD ((cwT (h - i) i).map FI) [a, b, c, d] = false ∧ dD ((cwT (h - i) i).map FI) [a, b, c, d] = false := by
  obtain ⟨b1, b2, b3, b4, b5, b6, b7, b8⟩ := cw_bd h0 h1 h3
  exact zD_four _ _ _ _ a b c d (by omega) (by omega) (by omega) (by omega) fa fb fc fd
theorem ws_four {h i : Int} {a b c d lo hi : Nat} (h0 : 0 ≤ i) (h1 : i ≤ h) (h2 : 1 ≤ h) (h3 : h ≤ 109572) (fa : fin a = true) (fb : fin b = true) (fc : fin c = true) (fd : fin d = true) (fl : fin lo = true) (fh : fin hi = true)
    (la : rk lo ≤ rk a) (lb : rk lo ≤ rk b) (lc : rk lo ≤ rk c) (ld : rk lo ≤ rk d) (ha : rk a ≤ rk hi) (hb : rk b ≤ rk hi) (hc : rk c ≤ rk hi) (hd : rk d ≤ rk hi) :
    nn (wsT (h * h * h).toNat (cwT (h - i) i) [a, b, c, d]) = false ∧ rk lo ≤ rk (wsT (h * h * h).toNat (cwT (h - i) i) [a, b, c, d]) ∧ rk (wsT (h * h * h).toNat (cwT (h - i) i) [a, b, c, d]) ≤ rk hi := by
  obtain ⟨z1, z2, z3⟩ := zD_cw h0 h1 h3 fa fb fc fd
  obtain ⟨b1, b2, b3, b4, b5, b6, b7, b8⟩ := cw_bd h0 h1 h3
  unfold wsT
  rw [z1, z2, z3]
  refine ⟨nn_overA _ _, ?_⟩
  have hU : (0 : Int) ≤ (U1 : Int) := by have := U1_pos; omega
  have hh : 0 < h * h * h := Int.mul_pos (Int.mul_pos (by omega) (by omega)) (by omega)
  have e : (((h * h * h).toNat : Nat) : Int) = h * h * h := by omega
  have es := cube_sum i (h - i)
  rw [show h - i + i = h by omega] at es
  generalize (h - i) * (h - i) * (h - i) = p at *
  generalize 3 * (h - i) * (h - i) * i = q at *
  generalize 3 * (h - i) * i * i = r at *
  generalize i * i * i = s at *
  generalize h * h * h = H at *
  have key : ∀ x : Int, p * x + q * x + r * x + s * x = x * H := fun x => by rw [← Int.add_mul, ← Int.add_mul, ← Int.add_mul, es, Int.mul_comm]
  refine over_between (by omega) fl fh ?_ ?_
  · rw [e, Int.mul_right_comm]
    refine Int.mul_le_mul_of_nonneg_right ?_ hU
    rw [← key (SV lo)]
    have := mul_le3 b1 (SV_le.2 la)
    have := mul_le3 b3 (SV_le.2 lb)
    have := mul_le3 b5 (SV_le.2 lc)
    have := mul_le3 b7 (SV_le.2 ld)
    omega
  · rw [e, Int.mul_right_comm]
    refine Int.mul_le_mul_of_nonneg_right ?_ hU
    rw [← key (SV hi)]
    have := mul_le3 b1 (SV_le.2 ha)
    have := mul_le3 b3 (SV_le.2 hb)
    have := mul_le3 b5 (SV_le.2 hc)
    have := mul_le3 b7 (SV_le.2 hd)
    omega

/-- The lower and the higher of two. -/
theorem min_max {a b : Nat} (fa : fin a = true) (fb : fin b = true) : ∃ lo hi, fin lo = true ∧ fin hi = true ∧ rk lo = min (rk a) (rk b) ∧ rk hi = max (rk a) (rk b) := by
  by_cases h : rk a ≤ rk b
  · exact ⟨a, b, fa, fb, by omega, by omega⟩
  · exact ⟨b, a, fb, fa, by omega, by omega⟩
theorem F64_wsT (n : Nat) (w : List Int) (y : List Nat) : F64 (wsT n w y) := F64_overA _ _ _ _
theorem ltF_pos {x : Nat} (h : ltF 0 x = true) : 0 < rk x := by
  unfold ltF at h
  simp at h
  have : rk 0 = 0 := by decide +kernel
  omega
/-- What lies between two nodes. -/
theorem bt_bd {kind : Int} {X : List Int} {Y : List Nat} {k : Nat} (h : TOk X Y X.length) (hk : k + 1 < X.length) {i : Int} (h0 : 0 ≤ i) (h1 : i ≤ X.getD (k + 1) 0 - X.getD k 0) (k1 : 1 ≤ kind) (k4 : kind ≤ 4)
    (hl : kind = 4 → ∀ i, i < X.length → ltF 0 (Y.getD i 0) = true) :
    F64 (btT kind X Y k i (X.getD (k + 1) 0 - X.getD k 0)) ∧ nn (btT kind X Y k i (X.getD (k + 1) 0 - X.getD k 0)) = false ∧
    min (rk (Y.getD k 0)) (rk (Y.getD (k + 1) 0)) ≤ rk (btT kind X Y k i (X.getD (k + 1) 0 - X.getD k 0)) ∧ rk (btT kind X Y k i (X.getD (k + 1) 0 - X.getD k 0)) ≤ max (rk (Y.getD k 0)) (rk (Y.getD (k + 1) 0)) := by
  have st := h.step hk
  have fa := h.fn k (by omega)
  have fb := h.fn (k + 1) hk
  obtain ⟨lo, hi, fl, fh, rl, rh⟩ := min_max fa fb
  generalize X.getD (k + 1) 0 - X.getD k 0 = H at *
  unfold btT
  by_cases e1 : kind = 1
  · rw [if_pos e1]; exact ⟨h.wf _, nn_fin _ fa, by omega, by omega⟩
  rw [if_neg e1]
  by_cases e2 : kind = 2
  · rw [if_pos e2]
    obtain ⟨a, b, c⟩ := ws_two (lo := lo) (hi := hi) h0 h1 st.1 st.2 fa fb fl fh (by omega) (by omega) (by omega) (by omega)
    exact ⟨F64_wsT _ _ _, a, by omega, by omega⟩
  rw [if_neg e2]
  by_cases e3 : kind = 3
  · rw [if_pos e3]
    have pc := pc_ok h hk
    have pe := pe_ok h hk
    obtain ⟨a, b, c⟩ := ws_four (lo := lo) (hi := hi) h0 h1 st.1 st.2 fa (fin_pcT h hk) (fin_peT h hk) fb fl fh (by omega) (by omega) (by omega) (by omega) (by omega) (by omega) (by omega) (by omega)
    exact ⟨F64_wsT _ _ _, a, by omega, by omega⟩
  rw [if_neg e3]
  have e4 : kind = 4 := by omega
  have ga := fln_fin _ (h.wf k) fa (ltF_pos (hl e4 k (by omega)))
  have gb := fln_fin _ (h.wf (k + 1)) fb (ltF_pos (hl e4 (k + 1) hk))
  obtain ⟨lo', hi', fl', fh', rl', rh'⟩ := min_max ga gb
  obtain ⟨a, _, _⟩ := ws_two (lo := lo') (hi := hi') h0 h1 st.1 st.2 ga gb fl' fh' (by omega) (by omega) (by omega) (by omega)
  have ne := (fexp_pos _ (F64_wsT _ _ _) a).1
  exact ⟨F64_hld (F64_fexp _) (h.wf _) (h.wf _), nn_hld ne (nn_fin _ fa) (nn_fin _ fb), hld_bd ne (nn_fin _ fa) (nn_fin _ fb)⟩

end Go.Proofs.Yteikihidblcljaa

/- Plain: layer 10: nodes that never fall (rise): nothing ever falls (rises). No program. -/
namespace Go.Proofs.Yteikihidblcljaa
open Go.RowKit
set_option linter.unusedSimpArgs false
set_option linter.unusedVariables false

theorem lin_mono {h i j a b : Int} (hij : i ≤ j) (hab : a ≤ b) : (h - i) * a + i * b ≤ (h - j) * a + j * b := by
  have h1 : (h - i) * a + i * b = h * a + i * (b - a) := by rw [Int.sub_mul, Int.mul_sub]; omega
  have h2 : (h - j) * a + j * b = h * a + j * (b - a) := by rw [Int.sub_mul, Int.mul_sub]; omega
  have h3 := Int.mul_le_mul_of_nonneg_right hij (show 0 ≤ b - a by omega)
  omega
theorem lin_anti {h i j a b : Int} (hij : i ≤ j) (hab : b ≤ a) : (h - j) * a + j * b ≤ (h - i) * a + i * b := by
  have := lin_mono (h := h) hij (show -a ≤ -b by omega)
  simp only [Int.mul_neg] at this
  omega

theorem cube_mono {i j : Int} (h0 : 0 ≤ i) (h : i ≤ j) : i * i * i ≤ j * j * j := by
  have a : i * i ≤ j * j := Int.mul_le_mul h h h0 (by omega)
  exact Int.mul_le_mul a h h0 (Int.mul_nonneg (by omega) (by omega))
theorem t2_step {h i : Int} (h0 : 0 ≤ i) (h1 : i + 1 ≤ h) : 3 * (h - i) * i * i + i * i * i ≤ 3 * (h - (i + 1)) * (i + 1) * (i + 1) + (i + 1) * (i + 1) * (i + 1) := by
  obtain ⟨t, ht, rfl⟩ : ∃ t : Int, 0 ≤ t ∧ h = i + 1 + t := ⟨h - (i + 1), by omega, by omega⟩
  have e1 : i + 1 + t - i = 1 + t := by omega
  have e2 : i + 1 + t - (i + 1) = t := by omega
  rw [e1, e2]
  have hb : 0 ≤ t * i := Int.mul_nonneg ht h0
  have x1 : 3 * (1 + t) * i * i = 3 * (i * i) + 3 * (t * i * i) := by
    rw [Int.mul_add, Int.add_mul, Int.add_mul, Int.mul_one]; simp only [Int.mul_assoc]
  have x2 : (i + 1) * (i + 1) = i * i + 2 * i + 1 := by rw [Int.mul_add, Int.add_mul]; omega
  have x3 : 3 * t * (i + 1) * (i + 1) = 3 * (t * i * i) + 6 * (t * i) + 3 * t := by
    rw [Int.mul_assoc, x2, Int.mul_add, Int.mul_add]
    have a : 3 * t * (i * i) = 3 * (t * i * i) := by simp only [Int.mul_assoc]
    have b : 3 * t * (2 * i) = 6 * (t * i) := by rw [← Int.mul_assoc, Int.mul_right_comm 3 t 2, Int.mul_assoc]; rfl
    rw [a, b]; omega
  have x4 : (i + 1) * (i + 1) * (i + 1) = i * i * i + 3 * (i * i) + 3 * i + 1 := by
    rw [x2, Int.mul_add, Int.add_mul, Int.add_mul]
    have : 2 * i * i = 2 * (i * i) := Int.mul_assoc _ _ _
    rw [this]; omega
  rw [x1, x3, x4]
  omega
theorem t2_mono {h i : Int} (h0 : 0 ≤ i) : ∀ n : Nat, i + n ≤ h → 3 * (h - i) * i * i + i * i * i ≤ 3 * (h - (i + n)) * (i + n) * (i + n) + (i + n) * (i + n) * (i + n)
  | 0, _ => by rw [show i + ((0 : Nat) : Int) = i by omega]; exact Int.le_refl _
  | n + 1, hn => by
    have h1 := t2_mono (h := h) h0 n (by omega)
    have h2 := t2_step (h := h) (i := i + n) (by omega) (by omega)
    rw [show i + ((n + 1 : Nat) : Int) = i + n + 1 by omega]
    exact Int.le_trans h1 h2
/-- A cubic by points that never fall. -/
theorem bern_mono {h i j a b c d : Int} (h0 : 0 ≤ i) (hij : i ≤ j) (hj : j ≤ h) (hab : a ≤ b) (hbc : b ≤ c) (hcd : c ≤ d) :
    (h - i) * (h - i) * (h - i) * a + 3 * (h - i) * (h - i) * i * b + 3 * (h - i) * i * i * c + i * i * i * d ≤
    (h - j) * (h - j) * (h - j) * a + 3 * (h - j) * (h - j) * j * b + 3 * (h - j) * j * j * c + j * j * j * d := by
  have s1 := cube_sum i (h - i)
  have s2 := cube_sum j (h - j)
  rw [show h - i + i = h by omega] at s1
  rw [show h - j + j = h by omega] at s2
  have m1 := cube_mono (show 0 ≤ h - j by omega) (show h - j ≤ h - i by omega)
  have m3 := cube_mono h0 hij
  have m2 := t2_mono (h := h) h0 (j - i).toNat (by omega)
  rw [show i + ((j - i).toNat : Int) = j by omega] at m2
  generalize (h - i) * (h - i) * (h - i) = p at *
  generalize 3 * (h - i) * (h - i) * i = q at *
  generalize 3 * (h - i) * i * i = r at *
  generalize i * i * i = s at *
  generalize (h - j) * (h - j) * (h - j) = p' at *
  generalize 3 * (h - j) * (h - j) * j = q' at *
  generalize 3 * (h - j) * j * j = r' at *
  generalize j * j * j = s' at *
  have key : ∀ p q r s : Int, p * a + q * b + r * c + s * d = (p + q + r + s) * a + (q + r + s) * (b - a) + (r + s) * (c - b) + s * (d - c) := fun p q r s => by
    simp only [Int.add_mul, Int.mul_sub]; omega
  rw [key, key, s1, s2]
  have t1 := Int.mul_le_mul_of_nonneg_right (show q + r + s ≤ q' + r' + s' by omega) (show 0 ≤ b - a by omega)
  have t2 := Int.mul_le_mul_of_nonneg_right m2 (show 0 ≤ c - b by omega)
  have t3 := Int.mul_le_mul_of_nonneg_right m3 (show 0 ≤ d - c by omega)
  omega
theorem bern_anti {h i j a b c d : Int} (h0 : 0 ≤ i) (hij : i ≤ j) (hj : j ≤ h) (hab : b ≤ a) (hbc : c ≤ b) (hcd : d ≤ c) :
    (h - j) * (h - j) * (h - j) * a + 3 * (h - j) * (h - j) * j * b + 3 * (h - j) * j * j * c + j * j * j * d ≤
    (h - i) * (h - i) * (h - i) * a + 3 * (h - i) * (h - i) * i * b + 3 * (h - i) * i * i * c + i * i * i * d := by
  have := bern_mono (h := h) h0 hij hj (show -a ≤ -b by omega) (show -b ≤ -c by omega) (show -c ≤ -d by omega)
  simp only [Int.mul_neg] at this
  omega

/-- Between two nodes nothing falls where the nodes' values do not, nothing rises where they do not. -/
theorem bt_mono {kind : Int} {X : List Int} {Y : List Nat} {k : Nat} (h : TOk X Y X.length) (hk : k + 1 < X.length) {i j : Int} (h0 : 0 ≤ i) (hij : i ≤ j) (h1 : j ≤ X.getD (k + 1) 0 - X.getD k 0) (k1 : 1 ≤ kind) (k4 : kind ≤ 3) :
    (rk (Y.getD k 0) ≤ rk (Y.getD (k + 1) 0) → rk (btT kind X Y k i (X.getD (k + 1) 0 - X.getD k 0)) ≤ rk (btT kind X Y k j (X.getD (k + 1) 0 - X.getD k 0))) ∧
    (rk (Y.getD (k + 1) 0) ≤ rk (Y.getD k 0) → rk (btT kind X Y k j (X.getD (k + 1) 0 - X.getD k 0)) ≤ rk (btT kind X Y k i (X.getD (k + 1) 0 - X.getD k 0))) := by
  have st := h.step hk
  have fa := h.fn k (by omega)
  have fb := h.fn (k + 1) hk
  have hU : (0 : Int) ≤ (U1 : Int) := by have := U1_pos; omega
  have pc := pc_ok h hk
  have pe := pe_ok h hk
  have fpc := fin_pcT h hk
  have fpe := fin_peT h hk
  generalize X.getD (k + 1) 0 - X.getD k 0 = H at *
  unfold btT
  by_cases e1 : kind = 1
  · rw [if_pos e1, if_pos e1]; exact ⟨fun _ => Int.le_refl _, fun _ => Int.le_refl _⟩
  rw [if_neg e1, if_neg e1]
  by_cases e2 : kind = 2
  · rw [if_pos e2, if_pos e2]
    obtain ⟨z1, z2, z3⟩ := zD_two (H - i) i (Y.getD k 0) (Y.getD (k + 1) 0) (by omega) (by omega) fa fb
    obtain ⟨y1, y2, y3⟩ := zD_two (H - j) j (Y.getD k 0) (Y.getD (k + 1) 0) (by omega) (by omega) fa fb
    unfold wsT
    rw [z1, z2, z3, y1, y2, y3]
    exact ⟨fun g => over_mono (by omega) (Int.mul_le_mul_of_nonneg_right (lin_mono hij (SV_le.2 g)) hU), fun g => over_mono (by omega) (Int.mul_le_mul_of_nonneg_right (lin_anti hij (SV_le.2 g)) hU)⟩
  rw [if_neg e2, if_neg e2]
  have e3 : kind = 3 := by omega
  rw [if_pos e3, if_pos e3]
  obtain ⟨z1, z2, z3⟩ := zD_cw (a := Y.getD k 0) (b := pcT X Y X.length k) (c := peT X Y X.length k) (d := Y.getD (k + 1) 0) h0 (show i ≤ H by omega) st.2 fa fpc fpe fb
  obtain ⟨y1, y2, y3⟩ := zD_cw (a := Y.getD k 0) (b := pcT X Y X.length k) (c := peT X Y X.length k) (d := Y.getD (k + 1) 0) (show 0 ≤ j by omega) h1 st.2 fa fpc fpe fb
  have hh : 0 < H * H * H := Int.mul_pos (Int.mul_pos (by omega) (by omega)) (by omega)
  unfold wsT
  rw [z1, z2, z3, y1, y2, y3]
  refine ⟨fun g => over_mono (by omega) (Int.mul_le_mul_of_nonneg_right (bern_mono h0 hij h1 (SV_le.2 ?_) (SV_le.2 ?_) (SV_le.2 ?_)) hU), fun g => over_mono (by omega) (Int.mul_le_mul_of_nonneg_right (bern_anti h0 hij h1 (SV_le.2 ?_) (SV_le.2 ?_) (SV_le.2 ?_)) hU)⟩ <;> omega

/-- The value at a place that is in range. -/
def vlT (kind : Int) (X : List Int) (Y : List Nat) (x : Int) : Nat :=
  if X.getD (fndT X x) 0 = x then Y.getD (fndT X x) 0 else btT kind X Y (fndT X x) (x - X.getD (fndT X x) 0) (X.getD (fndT X x + 1) 0 - X.getD (fndT X x) 0)
theorem at_vl {kind : Int} {X : List Int} {Y : List Nat} {x : Int} (h : chkT kind X Y = 0) (h1 : X.getD 0 0 ≤ x) (h2 : x ≤ lastT X) : atT kind X Y x = (vlT kind X Y x, 0) := by
  unfold atT vlT
  rw [if_pos h, if_neg (by omega)]
  split <;> rfl
/-- The place behind a node, where it is no node. -/
theorem fnd_in {X : List Int} {Y : List Nat} (h : TOk X Y X.length) {x : Int} (h1 : X.getD 0 0 ≤ x) (h2 : x ≤ lastT X) (hne : X.getD (fndT X x) 0 ≠ x) :
    fndT X x + 1 < X.length ∧ 0 ≤ x - X.getD (fndT X x) 0 ∧ x - X.getD (fndT X x) 0 ≤ X.getD (fndT X x + 1) 0 - X.getD (fndT X x) 0 := by
  obtain ⟨f1, f2, f3, _⟩ := fnd_ok h h1
  have : fndT X x + 1 < X.length := by
    refine Decidable.byContradiction fun hc => ?_
    have e : fndT X x = X.length - 1 := by omega
    unfold lastT at h2
    rw [← e] at h2
    omega
  have := f3 this
  exact ⟨by assumption, by omega, by omega⟩
theorem vl_bd {kind : Int} {X : List Int} {Y : List Nat} (h : TOk X Y X.length) (k1 : 1 ≤ kind) (k4 : kind ≤ 4) (hl : kind = 4 → ∀ i, i < X.length → ltF 0 (Y.getD i 0) = true) {x : Int} (h1 : X.getD 0 0 ≤ x) (h2 : x ≤ lastT X) :
    F64 (vlT kind X Y x) ∧ nn (vlT kind X Y x) = false ∧ fndT X x < X.length ∧
    ((X.getD (fndT X x) 0 = x ∧ vlT kind X Y x = Y.getD (fndT X x) 0) ∨ (fndT X x + 1 < X.length ∧ min (rk (Y.getD (fndT X x) 0)) (rk (Y.getD (fndT X x + 1) 0)) ≤ rk (vlT kind X Y x) ∧ rk (vlT kind X Y x) ≤ max (rk (Y.getD (fndT X x) 0)) (rk (Y.getD (fndT X x + 1) 0)))) := by
  obtain ⟨f1, f2, f3, _⟩ := fnd_ok h h1
  unfold vlT
  by_cases e : X.getD (fndT X x) 0 = x
  · rw [if_pos e]
    exact ⟨h.wf _, nn_fin _ (h.fn _ f1), f1, .inl ⟨e, rfl⟩⟩
  · rw [if_neg e]
    obtain ⟨g1, g2, g3⟩ := fnd_in h h1 h2 e
    obtain ⟨b1, b2, b3, b4⟩ := bt_bd h g1 g2 g3 k1 k4 hl
    exact ⟨b1, b2, f1, .inr ⟨g1, b3, b4⟩⟩
theorem rk_up {Y : List Nat} {n : Nat} (up : ∀ i, i + 1 < n → rk (Y.getD i 0) ≤ rk (Y.getD (i + 1) 0)) : ∀ {j i : Nat}, i ≤ j → j < n → rk (Y.getD i 0) ≤ rk (Y.getD j 0) := by
  intro j
  induction j with
  | zero => intro i h1 _; obtain rfl : i = 0 := by omega
            exact Int.le_refl _
  | succ j ih =>
    intro i h1 h2
    by_cases e : i = j + 1
    · subst e; exact Int.le_refl _
    · have a := ih (i := i) (by omega) (by omega)
      have b := up j h2
      omega
theorem rk_dn {Y : List Nat} {n : Nat} (dn : ∀ i, i + 1 < n → rk (Y.getD (i + 1) 0) ≤ rk (Y.getD i 0)) : ∀ {j i : Nat}, i ≤ j → j < n → rk (Y.getD j 0) ≤ rk (Y.getD i 0) := by
  intro j
  induction j with
  | zero => intro i h1 _; obtain rfl : i = 0 := by omega
            exact Int.le_refl _
  | succ j ih =>
    intro i h1 h2
    by_cases e : i = j + 1
    · subst e; exact Int.le_refl _
    · have a := ih (i := i) (by omega) (by omega)
      have b := dn j h2
      omega
theorem fnd_mono {X : List Int} {Y : List Nat} (h : TOk X Y X.length) {x y : Int} (h1 : X.getD 0 0 ≤ x) (hxy : x ≤ y) : fndT X x ≤ fndT X y := by
  obtain ⟨f1, f2, f3, _⟩ := fnd_ok h h1
  obtain ⟨g1, g2, g3, _⟩ := fnd_ok h (show X.getD 0 0 ≤ y by omega)
  refine Decidable.byContradiction fun hc => ?_
  have := g3 (by omega)
  have := (up_le h.up (show fndT X y + 1 ≤ fndT X x by omega) f1).1
  omega
/-- Nodes that never fall (rise): nothing ever falls (rises). -/
theorem vl_mono {kind : Int} {X : List Int} {Y : List Nat} (h : TOk X Y X.length) (k1 : 1 ≤ kind) (k3 : kind ≤ 3) {x y : Int} (h1 : X.getD 0 0 ≤ x) (hxy : x ≤ y) (h2 : y ≤ lastT X) :
    ((∀ i, i + 1 < X.length → rk (Y.getD i 0) ≤ rk (Y.getD (i + 1) 0)) → rk (vlT kind X Y x) ≤ rk (vlT kind X Y y)) ∧
    ((∀ i, i + 1 < X.length → rk (Y.getD (i + 1) 0) ≤ rk (Y.getD i 0)) → rk (vlT kind X Y y) ≤ rk (vlT kind X Y x)) := by
  have hl : kind = 4 → ∀ i, i < X.length → ltF 0 (Y.getD i 0) = true := fun e => by omega
  have bx := (vl_bd h k1 (by omega) hl h1 (by omega)).2.2
  have by' := (vl_bd h k1 (by omega) hl (show X.getD 0 0 ≤ y by omega) h2).2.2
  have hm := fnd_mono h h1 hxy
  rcases Nat.lt_or_ge (fndT X x) (fndT X y) with hlt | hge
  · refine ⟨fun up => ?_, fun dn => ?_⟩
    · have u1 := rk_up up (show fndT X x + 1 ≤ fndT X y by omega) by'.1
      have u2 := up (fndT X x) (by omega)
      rcases bx.2 with ⟨_, e⟩ | ⟨_, _, b⟩ <;> rcases by'.2 with ⟨_, e'⟩ | ⟨g, b', _⟩
      · rw [e, e']; omega
      · have := up _ g; rw [e]; omega
      · rw [e']; omega
      · have := up _ g; omega
    · have u1 := rk_dn dn (show fndT X x + 1 ≤ fndT X y by omega) by'.1
      have u2 := dn (fndT X x) (by omega)
      rcases bx.2 with ⟨_, e⟩ | ⟨_, b, _⟩ <;> rcases by'.2 with ⟨_, e'⟩ | ⟨g, _, b'⟩
      · rw [e, e']; omega
      · have := dn _ g; rw [e]; omega
      · rw [e']; omega
      · have := dn _ g; omega
  · have e : fndT X x = fndT X y := by omega
    by_cases ey : X.getD (fndT X y) 0 = y
    · have ex : x = y := by
        have := (fnd_ok h h1).2.1
        rw [e] at this; omega
      rw [ex]; exact ⟨fun _ => Int.le_refl _, fun _ => Int.le_refl _⟩
    · obtain ⟨g1, g2, g3⟩ := fnd_in h (show X.getD 0 0 ≤ y by omega) h2 ey
      by_cases ex : X.getD (fndT X x) 0 = x
      · have vx : vlT kind X Y x = Y.getD (fndT X y) 0 := by unfold vlT; rw [if_pos ex, e]
        rw [vx]
        rcases by'.2 with ⟨e', _⟩ | ⟨_, b, b'⟩
        · exact absurd e' ey
        · refine ⟨fun up => ?_, fun dn => ?_⟩
          · have := up _ g1; omega
          · have := dn _ g1; omega
      · have vx : vlT kind X Y x = btT kind X Y (fndT X y) (x - X.getD (fndT X y) 0) (X.getD (fndT X y + 1) 0 - X.getD (fndT X y) 0) := by unfold vlT; rw [if_neg ex, e]
        have vy : vlT kind X Y y = btT kind X Y (fndT X y) (y - X.getD (fndT X y) 0) (X.getD (fndT X y + 1) 0 - X.getD (fndT X y) 0) := by unfold vlT; rw [if_neg ey]
        rw [vx, vy]
        have := (fnd_ok h h1).2.1
        rw [e] at this
        have B := bt_mono h g1 (show 0 ≤ x - X.getD (fndT X y) 0 by omega) (show x - X.getD (fndT X y) 0 ≤ y - X.getD (fndT X y) 0 by omega) g3 k1 k3
        exact ⟨fun up => B.1 (up _ g1), fun dn => B.2 (dn _ g1)⟩

end Go.Proofs.Yteikihidblcljaa

/- The walks of interp's Check and held. -/
namespace Go.Proofs.Yteikihidblcljaa
open Go.RowKit
set_option linter.unusedSimpArgs false
set_option linter.unusedVariables false

theorem Ins.belowK {w w' : World} {a : Option Addr} {l : List Int} (h : Ins w a l) (hb : Below w.heap.size w w') : Ins w' a l :=
  ⟨fun k hk => by
    obtain ⟨b, o, h1, h2⟩ := h.cell k hk
    exact ⟨b, o, h1, by rw [hb.cell (p := ⟨b, o + k, none⟩) (World.block_lt_of_cell? _ _ h2), h2]⟩, h.wf, h.len⟩
theorem Ins.heap {w w' : World} {a : Option Addr} {l : List Int} (h : Ins w a l) (e : w'.heap = w.heap) : Ins w' a l :=
  ⟨fun k hk => by
    obtain ⟨b, o, h1, h2⟩ := h.cell k hk
    exact ⟨b, o, h1, by unfold World.cell? at *; rw [e]; exact h2⟩, h.wf, h.len⟩

/-- A table's lists in memory. -/
structure Tbl (w : World) (ax : Option Addr) (X : List Int) (ay : Option Addr) (Y : List Nat) : Prop where
  ix : Ins w ax X
  fy : Fls w ay Y
theorem Tbl.belowK {w w' : World} {ax : Option Addr} {X : List Int} {ay : Option Addr} {Y : List Nat} (h : Tbl w ax X ay Y) (hb : Below w.heap.size w w') : Tbl w' ax X ay Y := ⟨h.ix.belowK hb, h.fy.belowK hb⟩
/-- A block that holds a table. -/
def BoxT (w : World) (b : Nat) (kind : Int) (ax : Option Addr) (nx cx : Nat) (ay : Option Addr) (ny cy : Nat) : Prop := w.heap[b]? = some (.cells #[.int .i64 kind, .slice ax nx cx, .slice ay ny cy] 60 (0, 0))
theorem BoxT.cell {w : World} {b : Nat} {kind : Int} {ax : Option Addr} {nx cx : Nat} {ay : Option Addr} {ny cy : Nat} (h : BoxT w b kind ax nx cx ay ny cy) :
    w.cell? ⟨b, 0, none⟩ = some (.int .i64 kind) ∧ w.cell? ⟨b, 1, none⟩ = some (.slice ax nx cx) ∧ w.cell? ⟨b, 2, none⟩ = some (.slice ay ny cy) := by
  unfold BoxT at h
  refine ⟨?_, ?_, ?_⟩ <;> simp [World.cell?, h]
theorem BoxT.lt {w : World} {b : Nat} {kind : Int} {ax : Option Addr} {nx cx : Nat} {ay : Option Addr} {ny cy : Nat} (h : BoxT w b kind ax nx cx ay ny cy) : b < w.heap.size := by
  unfold BoxT at h
  exact (Array.getElem?_eq_some_iff.1 h).1
theorem BoxT.below {w w' : World} {b : Nat} {kind : Int} {ax : Option Addr} {nx cx : Nat} {ay : Option Addr} {ny cy : Nat} (h : BoxT w b kind ax nx cx ay ny cy) (hb : Below w.heap.size w w') : BoxT w' b kind ax nx cx ay ny cy := (hb.block b h.lt).trans h
theorem BoxT.drewN {w : World} {b : Nat} {kind : Int} {ax : Option Addr} {nx cx : Nat} {ay : Option Addr} {ny cy : Nat} (h : BoxT w b kind ax nx cx ay ny cy) (n : Nat) : BoxT (w.drewN n) b kind ax nx cx ay ny cy := h
theorem box_t (w : World) (kind : Int) (ax : Option Addr) (nx cx : Nat) (ay : Option Addr) (ny cy : Nat) :
    ∃ W, (w.alloc (.cells #[.int .i64 kind, .slice ax nx cx, .slice ay ny cy] 60)) = W ∧ BoxT W w.heap.size kind ax nx cx ay ny cy ∧ Below w.heap.size w W := by
  refine ⟨_, rfl, ?_, ((Below.refl _ _).alloc (Nat.le_refl _) _)⟩
  unfold BoxT World.alloc; simp [Array.getElem?_push]

theorem cls_fin4 (x : Nat) (b : Bool) (h : fin x = b) : decide (4 ≤ cls x) = !b := by
  have := cls_fin x
  rw [h] at this
  cases b
  · have h2 := of_decide_eq_false this
    simp; omega
  · have h2 := of_decide_eq_true this
    simp; omega

set_option maxHeartbeats 3200000 in
theorem check_any (kind : Int) (ax : Option Addr) (X : List Int) (cx : Nat) (ay : Option Addr) (Y : List Nat) (cy : Nat) (w : World) (ht : Tbl w ax X ay Y) :
    Calls Try.prog 29 #[.agg #[.int .i64 kind, .slice ax X.length cx, .slice ay Y.length cy]] w fun e w' => e = .returned (.int .i64 (chkT kind X Y)) ∧ Below w.heap.size w w' := by
  have HC : Hd (∀ c, chkT kind X Y = c → c = chkT kind X Y) := ⟨fun c h => h.symm⟩
  have lx := ht.ix.len
  have ly := ht.fy.len
  have HT := Hd.mk ht
  obtain ⟨n, hn⟩ : ∃ n, X.length = n := ⟨_, rfl⟩
  obtain ⟨m, hm⟩ : ∃ m, Y.length = m := ⟨_, rfl⟩
  have HN := Hd.mk hn
  have HM := Hd.mk hm
  rw [hn] at lx ⊢
  rw [hm] at ly ⊢
  clear ht hn hm
  obtain ⟨W, hW, b1, b2⟩ := box_t w kind ax n cx ay m cy
  obtain ⟨x0, x1, x2⟩ := b1.cell
  have B1 := Hd.mk b1
  have B2 := Hd.mk b2
  have HTW := Hd.mk (HT.out.belowK b2)
  clear b1 b2 HT
  by_cases hk1 : kind < 1
  · have hk : Hd (90 = chkT kind X Y) := ⟨(chk_kind (by unfold knB; simp; omega)).symm⟩
    have e1 := decide_eq_true hk1
    clear hk1
    go_enter Try.func29, Try.ntmps29
    go_upto_region 1 with fail
    clear hW
    go_wp2_with fail
    go_ret
    exact ⟨ret_int hk.out, B2.out⟩
  by_cases hk2 : 4 < kind
  · have hk : Hd (90 = chkT kind X Y) := ⟨(chk_kind (by unfold knB; simp; omega)).symm⟩
    have e1 := decide_eq_false hk1
    have e2 := decide_eq_true hk2
    clear hk1 hk2
    go_enter Try.func29, Try.ntmps29
    go_upto_region 1 with fail
    clear hW
    go_wp2_with fail
    go_ret
    exact ⟨ret_int hk.out, B2.out⟩
  have K : Hd (knB kind = true) := ⟨by unfold knB; simp; omega⟩
  have e1 := decide_eq_false hk1
  have e2 := decide_eq_false hk2
  clear hk1 hk2
  by_cases hl1 : n < 1
  · have hk : Hd (100 = chkT kind X Y) := ⟨(chk_len K.out (by unfold lnB; rw [HN.out]; simp; omega)).symm⟩
    have e3 : decide ((n : Int) < 1) = true := by simp; omega
    clear hl1
    go_enter Try.func29, Try.ntmps29
    go_upto_region 1 with fail
    clear hW
    go_wp2_with fail
    go_ret
    exact ⟨ret_int hk.out, B2.out⟩
  have e3 : decide ((n : Int) < 1) = false := by simp; omega
  by_cases hl2 : 256 < n
  · have hk : Hd (100 = chkT kind X Y) := ⟨(chk_len K.out (by unfold lnB; rw [HN.out]; simp; omega)).symm⟩
    have e4 : decide ((n : Int) > 256) = true := by simp; omega
    clear hl1 hl2
    go_enter Try.func29, Try.ntmps29
    go_upto_region 1 with fail
    clear hW
    go_wp2_with fail
    go_ret
    exact ⟨ret_int hk.out, B2.out⟩
  have e4 : decide ((n : Int) > 256) = false := by simp; omega
  by_cases hl3 : n = m
  rotate_left
  · have hk : Hd (100 = chkT kind X Y) := ⟨(chk_len K.out (by unfold lnB; rw [HN.out, HM.out]; simp; omega)).symm⟩
    have e5 : ((n : Int) != m) = true := by rw [bne_iff_ne]; omega
    clear hl1 hl2 hl3
    go_enter Try.func29, Try.ntmps29
    go_upto_region 1 with fail
    clear hW
    go_wp2_with fail
    go_ret
    exact ⟨ret_int hk.out, B2.out⟩
  have e5 : ((n : Int) != m) = false := by rw [bne_eq_false_iff_eq]; omega
  have L : Hd (lnB X Y = true) := ⟨by unfold lnB; rw [HN.out, HM.out]; simp; omega⟩
  have HL3 := Hd.mk hl3
  have n1 : n ≤ 256 := by omega
  clear hl1 hl2 hl3
  go_enter Try.func29, Try.ntmps29
  go_upto_region 1 with fail
  clear hW
  go_wp2_with fail
  go_loop [3, 37] (fun l i => ∃ k : Nat, k ≤ n ∧ i = .int .i64 k ∧ l = .int .i64 (prv X k) ∧ Hd (∀ i, i < k → ndA kind X Y i = true)) (fun _ i => n - (intOf i).toNat)
  case atStart => exact ⟨0, Nat.zero_le _, rfl, rfl, ⟨fun i hi => by omega⟩⟩
  case round =>
    obtain ⟨k, hk, rfl, rfl, HA⟩ := hrel
    by_cases hlt : k < n
    · have hlt' : (k : Int) < n := by omega
      have hltm : (k : Int) < m := by have := HL3.out; omega
      have k0 : (0 : Int) ≤ k := by omega
      obtain ⟨bx, ox, hax, hcx⟩ := HTW.out.ix.cell k (by rw [HN.out]; exact hlt)
      obtain ⟨by_, oy, hay, hcy⟩ := HTW.out.fy.at k (by rw [HM.out, ← HL3.out]; exact hlt)
      subst hax
      subst hay
      have F := Hd.mk (HTW.out.fy.wf k)
      have HX : Hd (ndA kind X Y k = ndB kind (prv X k) (X.getD k 0) (Y.getD k 0)) := ⟨rfl⟩
      have HBad : Hd (ndA kind X Y k = false → 100 = chkT kind X Y) := ⟨fun h => (chk_node K.out L.out (by rw [HN.out]; exact hlt) h).symm⟩
      have HP : Hd (prv X (k + 1) = X.getD k 0) := ⟨by unfold prv; rw [if_neg (by omega), Nat.add_sub_cancel]⟩
      have HGo : Hd (ndA kind X Y k = true → ∀ i, i < k + 1 → ndA kind X Y i = true) := ⟨fun h i hi => by
        by_cases e : i = k
        · rw [e]; exact h
        · exact HA.out i (by omega)⟩
      generalize ndA kind X Y k = nd at *
      generalize X.getD k 0 = x at *
      generalize Y.getD k 0 = y at *
      obtain ⟨p, hp⟩ : ∃ p, prv X k = p := ⟨_, rfl⟩
      rw [hp] at HX ⊢
      clear hp HA
      have HCl := Hd.mk (class_any y F.out)
      by_cases t1 : x ≤ p
      · have d1 := decide_eq_true t1
        have hb := HBad.out (by rw [HX.out]; unfold ndB; simp; omega)
        have HB := Hd.mk hb
        clear t1 hb hlt
        go_wp2_with fail
        go_ret
        exact ⟨ret_int HB.out, B2.out⟩
      have d1 := decide_eq_false t1
      by_cases t2 : 109572 < x
      · have d2 : decide (x > 109572) = true := by simpa using t2
        have hb := HBad.out (by rw [HX.out]; unfold ndB; simp; omega)
        have HB := Hd.mk hb
        clear t1 t2 hb hlt
        go_wp2_with fail
        go_ret
        exact ⟨ret_int HB.out, B2.out⟩
      have d2 : decide (x > 109572) = false := by simp; omega
      cases hf : fin y
      · have d3 : decide (4 ≤ cls y) = true := cls_fin4 y false hf
        have hb := HBad.out (by rw [HX.out]; unfold ndB; rw [hf]; simp)
        have HB := Hd.mk hb
        clear t1 t2 hb hlt hf
        go_wp2_with (go_at_call 82; refine (HCl.out _).mono ?_; rintro e w' ⟨rfl, rfl⟩)
        go_ret
        exact ⟨ret_int HB.out, B2.out⟩
      have d3 : decide (4 ≤ cls y) = false := cls_fin4 y true hf
      by_cases t4 : kind = 4
      · have d4 : (kind == 4) = true := by simpa using t4
        have d5 := fgt' y 0 F.out ⟨by decide⟩
        cases hp : ltF 0 y
        · rw [hp] at d5
          have hb := HBad.out (by rw [HX.out]; unfold ndB; rw [hf, hp, d4]; simp)
          have HB := Hd.mk hb
          clear t1 t2 hb hlt hf hp t4
          go_wp2_with (go_at_call 82; refine (HCl.out _).mono ?_; rintro e w' ⟨rfl, rfl⟩)
          go_ret
          exact ⟨ret_int HB.out, B2.out⟩
        · rw [hp] at d5
          have HG := Hd.mk (HGo.out (by rw [HX.out]; unfold ndB; rw [hf, hp]; simp; omega))
          clear t1 t2 hlt hf hp t4
          go_wp2_with (go_at_call 82; refine (HCl.out _).mono ?_; rintro e w' ⟨rfl, rfl⟩)
          refine ⟨⟨k + 1, by omega, by go_num, by rw [HP.out], HG⟩, by simp [intOf]; omega⟩
      · have d4 : (kind == 4) = false := by simpa using t4
        have HG := Hd.mk (HGo.out (by rw [HX.out]; unfold ndB; rw [hf, d4]; simp; omega))
        clear t1 t2 hlt hf t4
        go_wp2_with (go_at_call 82; refine (HCl.out _).mono ?_; rintro e w' ⟨rfl, rfl⟩)
        refine ⟨⟨k + 1, by omega, by go_num, by rw [HP.out], HG⟩, by simp [intOf]; omega⟩
    · obtain rfl : k = n := by omega
      have HB : Hd (0 = chkT kind X Y) := ⟨(chk_good K.out L.out (by rw [HN.out]; exact HA.out)).symm⟩
      clear hlt
      go_wp2_with fail
      go_ret
      exact ⟨ret_int HB.out, B2.out⟩

/-- v between a and b, for floats that are no NaNs but perhaps v. -/
theorem held_any (v a b : Nat) (hv : F64 v) (ha : F64 a) (hb : F64 b) (na : nn a = false) (nb : nn b = false) (w : World) :
    Calls Try.prog 126 #[.float .f64 v, .float .f64 a, .float .f64 b] w fun e w' => e = .returned (.float .f64 (hld v a b)) ∧ w = w' := by
  have c1 := flt' b a hb ha
  have c2 := feq a b ha hb
  rw [na, nb, Bool.not_false, Bool.true_and, Bool.true_and] at c2
  have lt_e : ltF b a = decide (rk b < rk a) := by unfold ltF; rw [na, nb]; rfl
  cases h1 : ltF b a
  · by_cases h2 : rk a = rk b
    · have d2 := decide_eq_true h2
      rw [h1] at c1
      rw [d2] at c2
      have c3 := flt' v a hv ha
      have c4 := fgt' v a hv ha
      cases h3 : ltF v a
      · cases h4 : ltF a v
        · rw [h3] at c3
          rw [h4] at c4
          have H : Hd (v = hld v a b) := ⟨by unfold hld; rw [h1, h3, if_pos h2, h4]; rfl⟩
          clear h1 h2 h3 h4 d2 lt_e
          go_enter Try.func126, Try.ntmps126
          go_wp2_with fail
          go_ret
          exact ⟨ret_float H.out, rfl⟩
        · rw [h3] at c3
          rw [h4] at c4
          have H : Hd (a = hld v a b) := ⟨by unfold hld; rw [h1, h3, if_pos h2, h4]; rfl⟩
          clear h1 h2 h3 h4 d2 lt_e
          go_enter Try.func126, Try.ntmps126
          go_wp2_with fail
          go_ret
          exact ⟨ret_float H.out, rfl⟩
      · rw [h3] at c3
        have H : Hd (a = hld v a b) := ⟨by unfold hld; rw [h1, h3]; rfl⟩
        clear h1 h2 h3 d2 lt_e c4
        go_enter Try.func126, Try.ntmps126
        go_wp2_with fail
        go_ret
        exact ⟨ret_float H.out, rfl⟩
    · have d2 := decide_eq_false h2
      rw [h1] at c1
      rw [d2] at c2
      have c3 := flt' v a hv ha
      have c4 := fgt' v b hv hb
      cases h3 : ltF v a
      · cases h4 : ltF b v
        · rw [h3] at c3
          rw [h4] at c4
          have H : Hd (v = hld v a b) := ⟨by unfold hld; rw [h1, h3, if_neg h2, h4]; rfl⟩
          clear h1 h2 h3 h4 d2 lt_e
          go_enter Try.func126, Try.ntmps126
          go_wp2_with fail
          go_ret
          exact ⟨ret_float H.out, rfl⟩
        · rw [h3] at c3
          rw [h4] at c4
          have H : Hd (b = hld v a b) := ⟨by unfold hld; rw [h1, h3, if_neg h2, h4]; rfl⟩
          clear h1 h2 h3 h4 d2 lt_e
          go_enter Try.func126, Try.ntmps126
          go_wp2_with fail
          go_ret
          exact ⟨ret_float H.out, rfl⟩
      · rw [h3] at c3
        have H : Hd (a = hld v a b) := ⟨by unfold hld; rw [h1, h3]; rfl⟩
        clear h1 h2 h3 d2 lt_e c4
        go_enter Try.func126, Try.ntmps126
        go_wp2_with fail
        go_ret
        exact ⟨ret_float H.out, rfl⟩
  · have d2 : decide (rk a = rk b) = false := by
      rw [h1] at lt_e
      have := of_decide_eq_true lt_e.symm
      simp; omega
    rw [h1] at c1
    rw [d2] at c2
    have c3 := flt' v b hv hb
    have c4 := fgt' v a hv ha
    cases h3 : ltF v b
    · cases h4 : ltF a v
      · rw [h3] at c3
        rw [h4] at c4
        have H : Hd (v = hld v a b) := ⟨by unfold hld; rw [h1, h3, h4]; rfl⟩
        clear h1 h3 h4 d2 lt_e
        go_enter Try.func126, Try.ntmps126
        go_wp2_with fail
        go_ret
        exact ⟨ret_float H.out, rfl⟩
      · rw [h3] at c3
        rw [h4] at c4
        have H : Hd (a = hld v a b) := ⟨by unfold hld; rw [h1, h3, h4]; rfl⟩
        clear h1 h3 h4 d2 lt_e
        go_enter Try.func126, Try.ntmps126
        go_wp2_with fail
        go_ret
        exact ⟨ret_float H.out, rfl⟩
    · rw [h3] at c3
      have H : Hd (b = hld v a b) := ⟨by unfold hld; rw [h1, h3]; rfl⟩
      clear h1 h3 d2 lt_e c4
      go_enter Try.func126, Try.ntmps126
      go_wp2_with fail
      go_ret
      exact ⟨ret_float H.out, rfl⟩

end Go.Proofs.Yteikihidblcljaa

/- The walks of interp's over and rise. -/
namespace Go.Proofs.Yteikihidblcljaa
open Go.RowKit
set_option linter.unusedSimpArgs false
set_option linter.unusedVariables false

/-- An operation that gives no NaN gives its own bits, and asks nothing of the tape. -/
theorem fx_of {op : BinOp} {a b r : Nat} (h : floatBits op .f64 a b = some r) : (∀ w, fres op a b w = r) ∧ fcnt op a b = 0 := ⟨fun w => fres_some w h, by unfold fcnt; rw [h]⟩
theorem fx_add {a b : Nat} (h : nn (fadd a b) = false) : (∀ w, fres .add a b w = fadd a b) ∧ fcnt .add a b = 0 := by
  refine fx_of (op := .add) ?_
  show dbl.add a b = some _
  unfold fadd at h ⊢
  cases e : dbl.add a b with
  | none => rw [e] at h; exact absurd (nn_NaNc.symm.trans h) (by decide)
  | some r => rfl
theorem fx_sub {a b : Nat} (h : nn (fsub a b) = false) : (∀ w, fres .sub a b w = fsub a b) ∧ fcnt .sub a b = 0 := by
  refine fx_of (op := .sub) ?_
  show dbl.sub a b = some _
  unfold fsub at h ⊢
  cases e : dbl.sub a b with
  | none => rw [e] at h; exact absurd (nn_NaNc.symm.trans h) (by decide)
  | some r => rfl
theorem fx_mul {a b : Nat} (h : nn (fmul a b) = false) : (∀ w, fres .mul a b w = fmul a b) ∧ fcnt .mul a b = 0 := by
  refine fx_of (op := .mul) ?_
  show dbl.mul a b = some _
  unfold fmul at h ⊢
  cases e : dbl.mul a b with
  | none => rw [e] at h; exact absurd (nn_NaNc.symm.trans h) (by decide)
  | some r => rfl
theorem fx_quo {a b : Nat} (h : nn (fdiv a b) = false) : (∀ w, fres .quo a b w = fdiv a b) ∧ fcnt .quo a b = 0 := by
  refine fx_of (op := .quo) ?_
  show dbl.div a b = some _
  unfold fdiv at h ⊢
  cases e : dbl.div a b with
  | none => rw [e] at h; exact absurd (nn_NaNc.symm.trans h) (by decide)
  | some r => rfl

theorem Ins.at {w : World} {a : Option Addr} {l : List Int} (h : Ins w a l) (k : Nat) (hk : k < l.length) : ∃ b o, a = some ⟨b, o, none⟩ ∧ w.cell? ⟨b, o + k, none⟩ = some (.int .i64 (l.getD k 0)) := h.cell k hk
theorem getD_map_FI (l : List Int) (k : Nat) (h : k < l.length) : (l.map FI).getD k 0 = FI (l.getD k 0) := by
  simp [List.getD_eq_getElem?_getD, List.getElem?_eq_getElem h]
theorem F64_FI (n : Int) : F64 (FI n) := by
  show F64 (floatOfInt .f64 n)
  rw [floatOfInt_sg]; exact F64_of_lt (Ieee.Format.nearest_lt _ _ _ _)

set_option maxHeartbeats 1600000 in
set_option maxRecDepth 100000 in
theorem over10_any (n : Nat) (hn : 1 ≤ n) (hn2 : n ≤ 9223372036854775807) (a : Option Addr) (l : List Int) (c : Nat) (a' : Option Addr) (m : List Nat) (c' : Nat) (w : World) (hl : Ins w a l) (hm : Fls w a' m) (hlm : l.length = m.length) (hz : AccB (zD (l.map FI) m)) :
    Calls Try.prog 124 #[.int .i64 n, .slice a l.length c, .slice a' m.length c'] w fun e w' => e = .returned (.float .f64 (wsT n l m)) ∧ Below w.heap.size w w' := by
  have HL := Hd.mk hl
  have HM := Hd.mk hm
  have hlen := hl.len
  have HV := Hd.mk fun ba w1 h => over_any ba (zD (l.map FI) m) (uD (l.map FI) m) (dD (l.map FI) m) n hn hn2 w1 h hz
  rw [show wsT n l m = overA (zD (l.map FI) m) (uD (l.map FI) m) (dD (l.map FI) m) n from rfl]
  generalize overA (zD (l.map FI) m) (uD (l.map FI) m) (dD (l.map FI) m) n = R at *
  rw [← hlm]
  obtain ⟨N, hN⟩ : ∃ n, l.length = n := ⟨_, rfl⟩
  rw [hN] at hlen hlm ⊢
  have HN := Hd.mk hN
  have HN' := Hd.mk hlm.symm
  clear hl hm hz hN hlm hn hn2
  go_enter Try.func124, Try.ntmps124
  go_wp2_with fail
  refine (new_any _).mono ?_; rintro e w1 ⟨ba, rfl, hba, hacc, hb⟩
  have HA0 := Hd.mk hacc
  have HB0 := Hd.mk hb
  have HBA := Hd.mk hba
  clear hacc hb hba
  go_wp2_with fail
  go_loopw [14] (fun iv wr => ∃ k : Nat, k ≤ N ∧ iv = .int .i64 k ∧ Hd (AccIs wr ba (zD ((l.map FI).take k) (m.take k)) (uD ((l.map FI).take k) (m.take k)) (dD ((l.map FI).take k) (m.take k))) ∧ Hd (Below w.heap.size w wr)) (fun iv _ => N - (intOf iv).toNat)
  case atStart => exact ⟨0, Nat.zero_le _, rfl, HA0, HB0⟩
  case round =>
    clear HA0 HB0
    obtain ⟨k, hk, rfl, HA, HB⟩ := hrel
    by_cases hlt : k < N
    · obtain ⟨b, o, ha, hc⟩ := (HL.out.belowK HB.out).at k (by rw [HN.out]; exact hlt)
      obtain ⟨b', o', ha', hc'⟩ := (HM.out.belowK HB.out).at k (by rw [HN'.out]; exact hlt)
      subst ha
      subst ha'
      have hlt' : (k : Int) < N := by omega
      have HS := Hd.mk (zD_take (l.map FI) m k (by rw [List.length_map, HN.out]; exact hlt) (by rw [HN'.out]; exact hlt))
      have HAd : Hd (∀ w2, AccIs w2 ba (zD ((l.map FI).take k) (m.take k)) (uD ((l.map FI).take k) (m.take k)) (dD ((l.map FI).take k) (m.take k)) → Calls Try.prog 13 #[.pointer (some ⟨ba, 0, none⟩), .float .f64 (floatOfInt .f64 (l.getD k 0)), .float .f64 (m.getD k 0)] w2 fun e w' => e = .returned (.tuple #[]) ∧ AccIs w' ba (zD ((l.map FI).take (k + 1)) (m.take (k + 1))) (uD ((l.map FI).take (k + 1)) (m.take (k + 1))) (dD ((l.map FI).take (k + 1)) (m.take (k + 1))) ∧ Only ba w2 w') := ⟨fun w2 h2 => by
        have := accProd_any ba _ _ _ (FI (l.getD k 0)) (m.getD k 0) w2 h2 (F64_FI _) (HM.out.wf k)
        rw [← getD_map_FI l k (by rw [HN.out]; exact hlt), ← HS.out.1, ← HS.out.2.1, ← HS.out.2.2, getD_map_FI l k (by rw [HN.out]; exact hlt)] at this
        exact this⟩
      have HWf := Hd.mk (HL.out.wf k)
      have k0 : (0 : Int) ≤ k := by omega
      have h2c : wr.drew.cell? ⟨b, o + k, none⟩ = some (.int .i64 (l.getD k 0)) := hc
      have h2c' : wr.drew.cell? ⟨b', o' + k, none⟩ = some (.float .f64 (m.getD k 0)) := hc'
      generalize l.getD k 0 = x at *
      generalize m.getD k 0 = y at *
      clear hlt
      go_wp2_with fail
      refine wp_region_still_tail 10 (by kernel_rfl) (by kernel_rfl) ?_
      simp only [List.take_succ_cons, List.take_zero, List.drop_succ_cons, List.drop_zero]
      change wpStill _ _ wr.drew _ _ _
      iterate 10 still_step
      refine wpStill_nil ?_
      change wpList _ _ _ _ _ wr.drew
      go_wp2_with fail
      refine (HAd.out _ HA.out.drew).mono ?_; rintro e w2 ⟨rfl, hacc, ho⟩
      have HA2 := Hd.mk hacc
      have HB2 := Hd.mk (Only.below HB.out.drew HBA.out ho HB.out.size)
      clear hacc ho
      go_wp2_with fail
      exact ⟨⟨k + 1, by omega, by go_num, HA2, HB2⟩, by simp [intOf]; omega⟩
    · have hge : (N : Int) ≤ k := by omega
      have he : Hd ((l.map FI).take k = l.map FI) := ⟨List.take_of_length_le (by rw [List.length_map, HN.out]; omega)⟩
      have he' : Hd (m.take k = m) := ⟨List.take_of_length_le (by rw [HN'.out]; omega)⟩
      rw [he.out, he'.out] at HA
      clear hlt
      go_wp2_with fail
      refine (HV.out _ _ HA.out).mono ?_; rintro e w2 ⟨rfl, hb⟩
      have HB2 := Hd.mk (HB.out.trans (hb.mono HB.out.size))
      clear hb
      go_wp2_with fail
      go_ret
      exact ⟨rfl, HB2.out⟩

set_option maxHeartbeats 1600000 in
set_option maxRecDepth 100000 in
theorem rise_any (kind : Int) (ax : Option Addr) (X : List Int) (cx : Nat) (ay : Option Addr) (Y : List Nat) (cy : Nat) (n : Nat) (w : World) (ht : Tbl w ax X ay Y) (hk : TOk X Y n) (k : Nat) (hkn : k + 1 < n) :
    Calls Try.prog 138 #[.agg #[.int .i64 kind, .slice ax n cx, .slice ay n cy], .int .i64 k] w fun e w' => e = .returned (.float .f64 (rsT X Y k)) ∧ Below w.heap.size w w' := by
  have HR : Hd (fdiv (fsub (Y.getD (k + 1) 0) (Y.getD k 0)) (floatOfInt .f64 (X.getD (k + 1) 0 - X.getD k 0)) = rsT X Y k) := ⟨rfl⟩
  obtain ⟨f1, f2, f3⟩ := hk.fi hkn
  have ns : nn (fsub (Y.getD (k + 1) 0) (Y.getD k 0)) = false := nnSub (hk.wf _) (hk.wf _) (hk.fn _ hkn) (nn_fin _ (hk.fn _ (by omega)))
  obtain ⟨q1, q2⟩ := fx_sub ns
  obtain ⟨q3, q4⟩ := fx_quo (a := fsub (Y.getD (k + 1) 0) (Y.getD k 0)) (b := floatOfInt .f64 (X.getD (k + 1) 0 - X.getD k 0)) (nn_rsT hk hkn)
  obtain ⟨W, hW, b1, b2⟩ := box_t w kind ax n cx ay n cy
  obtain ⟨x0, x1, x2⟩ := b1.cell
  have B2 := Hd.mk b2
  have T := ht.belowK b2
  obtain ⟨bx, ox, hax, c1⟩ := T.ix.at k (by rw [hk.lx]; omega)
  obtain ⟨bx', ox', hax', c2⟩ := T.ix.at (k + 1) (by rw [hk.lx]; omega)
  rw [hax] at hax'
  cases hax'
  obtain ⟨by_, oy, hay, c3⟩ := T.fy.at k (by rw [hk.ly]; omega)
  obtain ⟨by', oy', hay', c4⟩ := T.fy.at (k + 1) (by rw [hk.ly]; omega)
  rw [hay] at hay'
  cases hay'
  subst hax
  subst hay
  have st := hk.step hkn
  have l1 := hk.lo k (by omega)
  have l2 := hk.hi (k + 1) hkn
  have k0 : (0 : Int) ≤ k := by omega
  have k1 : (k : Int) + 1 < n := by omega
  have k4 : (0 : Int) ≤ (k : Int) + 1 := by omega
  have k2 : (k : Int) < n := by omega
  have k3 : (n : Int) ≤ 256 := by have := hk.max; omega
  have wr1 : IntKind.i64.wrap ((k : Int) + 1) = (k : Int) + 1 := IntWalk.i64_in _ (by omega)
  have wr2 : ((k : Int) + 1).toNat = k + 1 := by omega
  have wr3 : IntKind.i64.wrap (X.getD (k + 1) 0 - X.getD k 0) = X.getD (k + 1) 0 - X.getD k 0 := IntWalk.i64_in _ (by omega)
  clear hk hkn ht b1 b2 T ns f1 f2 f3 st l1 l2
  generalize rsT X Y k = R at *
  generalize X.getD (k + 1) 0 = xa at *
  generalize X.getD k 0 = xb at *
  generalize hS : fsub (Y.getD (k + 1) 0) (Y.getD k 0) = S at *
  generalize Y.getD (k + 1) 0 = ya at *
  generalize Y.getD k 0 = yb at *
  clear hS
  go_enter Try.func138, Try.ntmps138
  go_upto_region 1 with fail
  clear hW
  go_wp2_with fail
  go_quiet (fail)
  go_wp2_with fail
  go_ret
  exact ⟨ret_float HR.out, below_drewN B2.out _⟩

end Go.Proofs.Yteikihidblcljaa

/- The walk of interp's slopes. -/
namespace Go.Proofs.Yteikihidblcljaa
open Go.RowKit
set_option linter.unusedSimpArgs false
set_option linter.unusedVariables false

theorem info_f64r : (Try.prog.info? 28).map (fun i => (i.zero, i.size, i.bytes)) = some (some (.float .f64 0), 1, 8) := by kernel_rfl
theorem make_f64 (n : Nat) (hn : n ≤ 1000000) (w : World) :
    (Instr.makeSlice 58 (.int .i64 (n : Int)) (.int .i64 (n : Int))).run Try.prog w = .ok (.slice (some ⟨w.heap.size, 0, none⟩) n n) (w.alloc (.cells (madeCells #[.float .f64 0] n) 28)) :=
  run_make_row' 58 28 (.float .f64 0) 8 Try.underlying58 info_f64r rfl .i64 .i64 n (by omega) (by omega) w

theorem BoxT.set {w : World} {b : Nat} {kind : Int} {ax : Option Addr} {nx cx : Nat} {ay : Option Addr} {ny cy : Nat} (h : BoxT w b kind ax nx cx ay ny cy) {g : Nat} (hg : b ≠ g) (i : Nat) (v : Value) : BoxT (w.setCell ⟨g, i, none⟩ v) b kind ax nx cx ay ny cy := by
  unfold BoxT at *
  rw [Deep.blk_setCell_other _ _ _ _ hg]; exact h

/-- A row of floats that the call has made and filled. -/
structure FilledF (w0 w : World) (b n : Nat) (f : Nat → Nat) : Prop where
  below : Below w0.heap.size w0 w
  own : w0.heap.size ≤ b
  row : w.rowIs b 28 n fun j => .float .f64 (f j)
  dig : ∀ j, F64 (f j)
theorem FilledF.made {w0 w : World} (h : Below w0.heap.size w0 w) (n : Nat) : FilledF w0 (w.alloc (.cells (madeCells #[.float .f64 0] n) 28)) w.heap.size n (fun _ => 0) where
  below := h.alloc h.size _
  own := h.size
  row := (World.rowIs_made w (.float .f64 0) n 28).congr fun i hi => rfl
  dig := fun j => ⟨by decide⟩
theorem FilledF.drewN {w0 w : World} {b n : Nat} {f : Nat → Nat} (h : FilledF w0 w b n f) (k : Nat) : FilledF w0 (w.drewN k) b n f := ⟨below_drewN h.below k, h.own, h.row, h.dig⟩
theorem FilledF.drew {w0 w : World} {b n : Nat} {f : Nat → Nat} (h : FilledF w0 w b n f) : FilledF w0 w.drew b n f := ⟨h.below.drew, h.own, h.row, h.dig⟩
theorem FilledF.set {w0 w : World} {b n : Nat} {f : Nat → Nat} (h : FilledF w0 w b n f) (i v : Nat) (hv : F64 v) : FilledF w0 (w.setCell ⟨b, i, none⟩ (.float .f64 v)) b n (upd f i v) where
  below := h.below.setCell h.own _
  own := h.own
  row := (h.row.set i (.float .f64 v)).congr fun j hj => by
    unfold upd; by_cases e : j = i
    · rw [if_pos e, if_pos e]
    · rw [if_neg e, if_neg e]
  dig := fun j => by unfold upd; split; exact hv; exact h.dig j
theorem FilledF.after {w0 w w' : World} {b n : Nat} {f : Nat → Nat} (h : FilledF w0 w b n f) (hb : Below w.heap.size w w') : FilledF w0 w' b n f :=
  ⟨h.below.trans (hb.mono h.below.size), h.own, h.row.of_block (hb.block b h.row.lt), h.dig⟩
theorem FilledF.congr {w0 w : World} {b n : Nat} {f g : Nat → Nat} (h : FilledF w0 w b n f) (e : ∀ j, j < n → f j = g j) (hg : ∀ j, F64 (g j)) : FilledF w0 w b n g :=
  ⟨h.below, h.own, h.row.congr fun j hj => by rw [e j hj], hg⟩
/-- The list of a filled row. -/
def rowL (n : Nat) (f : Nat → Nat) : List Nat := (List.range n).map f
theorem rowL_len (n : Nat) (f : Nat → Nat) : (rowL n f).length = n := by unfold rowL; simp
theorem rowL_get (n : Nat) (f : Nat → Nat) (i : Nat) (h : i < n) : (rowL n f).getD i 0 = f i := by unfold rowL; simp [List.getD_eq_getElem?_getD, h]
theorem FilledF.fls {w0 w : World} {b n : Nat} {f : Nat → Nat} (h : FilledF w0 w b n f) (hn : n ≤ 1000000) : Fls w (some ⟨b, 0, none⟩) (rowL n f) where
  nil := fun e => by cases e
  cell := fun b' o v e i hi => by
    cases e
    rw [rowL_len] at hi
    exact ⟨rfl, by rw [Nat.zero_add, rowL_get n f i hi]; exact h.row.cell hi⟩
  wf := fun i => by
    by_cases hi : i < n
    · rw [rowL_get n f i hi]; exact h.dig i
    · rw [List.getD_eq_getElem?_getD, List.getElem?_eq_none (by rw [rowL_len]; omega)]; exact ⟨by decide⟩
  len := by rw [rowL_len]; omega

/-- It returns a new row of floats. -/
def RowRet (n : Nat) (f : Nat → Nat) (w : World) (e : Ending) (w' : World) : Prop := ∃ b, e = .returned (.slice (some ⟨b, 0, none⟩) n n) ∧ FilledF w w' b n f

theorem rise_int (kind : Int) (ax : Option Addr) (X : List Int) (cx : Nat) (ay : Option Addr) (Y : List Nat) (cy : Nat) (n : Nat) (w : World) (ht : Tbl w ax X ay Y) (hk : TOk X Y n) (k : Int) (h0 : 0 ≤ k) (hkn : k + 1 < n) :
    Calls Try.prog 138 #[.agg #[.int .i64 kind, .slice ax n cx, .slice ay n cy], .int .i64 k] w fun e w' => e = .returned (.float .f64 (rsT X Y k.toNat)) ∧ Below w.heap.size w w' := by
  obtain ⟨m, rfl⟩ := Int.eq_ofNat_of_zero_le h0
  exact rise_any kind ax X cx ay Y cy n w ht hk m (by omega)

/-- The tests of a slope. -/
theorem hm_ways (a b : Nat) (ha : F64 a) (hb : F64 b) :
    ((FloatKind.f64.format.order a 0 == some .gt) = true ∧ (FloatKind.f64.format.order b 0 == some .gt) = true ∧ Hd (hmT a b = fdiv two64f (fadd (fdiv one64 a) (fdiv one64 b)))) ∨
    ((FloatKind.f64.format.order a 0 == some .gt) = true ∧ (FloatKind.f64.format.order b 0 == some .gt) = false ∧ (FloatKind.f64.format.order a 0 == some .lt) = false ∧ Hd (hmT a b = 0)) ∨
    ((FloatKind.f64.format.order a 0 == some .gt) = false ∧ (FloatKind.f64.format.order a 0 == some .lt) = true ∧ (FloatKind.f64.format.order b 0 == some .lt) = true ∧ Hd (hmT a b = fdiv two64f (fadd (fdiv one64 a) (fdiv one64 b)))) ∨
    ((FloatKind.f64.format.order a 0 == some .gt) = false ∧ (FloatKind.f64.format.order a 0 == some .lt) = true ∧ (FloatKind.f64.format.order b 0 == some .lt) = false ∧ Hd (hmT a b = 0)) ∨
    ((FloatKind.f64.format.order a 0 == some .gt) = false ∧ (FloatKind.f64.format.order a 0 == some .lt) = false ∧ Hd (hmT a b = 0)) := by
  rw [fgt' a 0 ha ⟨by decide⟩, fgt' b 0 hb ⟨by decide⟩, flt' a 0 ha ⟨by decide⟩, flt' b 0 hb ⟨by decide⟩]
  unfold hmT
  have hx : ltF 0 a = true → ltF a 0 = false := fun h => by
    unfold ltF at h ⊢
    simp at h
    simp; omega
  cases h1 : ltF 0 a
  · cases h3 : ltF a 0
    · exact .inr (.inr (.inr (.inr ⟨rfl, rfl, ⟨by simp⟩⟩)))
    · cases h4 : ltF b 0
      · exact .inr (.inr (.inr (.inl ⟨rfl, rfl, rfl, ⟨by simp⟩⟩)))
      · exact .inr (.inr (.inl ⟨rfl, rfl, rfl, ⟨by simp⟩⟩))
  · cases h2 : ltF 0 b
    · exact .inr (.inl ⟨rfl, rfl, hx h1, ⟨by rw [hx h1]; simp⟩⟩)
    · exact .inl ⟨rfl, rfl, ⟨by simp⟩⟩

theorem slT_0 (X : List Int) (Y : List Nat) (n : Nat) (h : 2 ≤ n) : slT X Y n 0 = rsT X Y 0 := by unfold slT; rw [if_neg (by omega), if_pos rfl]
theorem slT_e (X : List Int) (Y : List Nat) (n : Nat) (h : 2 ≤ n) : slT X Y n (n - 1) = rsT X Y (n - 2) := by
  unfold slT; rw [if_neg (by omega)]
  by_cases e : n - 1 = 0
  · omega
  · rw [if_neg e, if_pos (by omega)]
theorem slT_m (X : List Int) (Y : List Nat) (n k : Nat) (h : k + 2 < n) : slT X Y n (k + 1) = hmT (rsT X Y k) (rsT X Y (k + 1)) := by
  unfold slT; rw [if_neg (by omega), if_neg (by omega), if_neg (by omega)]; rfl

set_option maxHeartbeats 6400000 in
set_option maxRecDepth 100000 in
theorem slopes_any (kind : Int) (ax : Option Addr) (X : List Int) (cx : Nat) (ay : Option Addr) (Y : List Nat) (cy : Nat) (n : Nat) (w : World) (ht : Tbl w ax X ay Y) (hk : TOk X Y n) :
    Calls Try.prog 122 #[.agg #[.int .i64 kind, .slice ax n cx, .slice ay n cy]] w (RowRet n (slT X Y n) w) := by
  have nmax := hk.max
  have npos := hk.pos
  have hmk : ∀ w, (Instr.makeSlice 58 (.int .i64 (n : Int)) (.int .i64 (n : Int))).run Try.prog w = .ok (.slice (some ⟨w.heap.size, 0, none⟩) n n) (w.alloc (.cells (madeCells #[.float .f64 0] n) 28)) := fun w => make_f64 n (by omega) w
  have HK := Hd.mk hk
  obtain ⟨W, hW, b1, b2⟩ := box_t w kind ax n cx ay n cy
  obtain ⟨x0, x1, x2⟩ := b1.cell
  have B1 := Hd.mk b1
  have T := Hd.mk (ht.belowK b2)
  have F0 := Hd.mk (FilledF.made b2 n)
  have HBW := Hd.mk b2
  have HT0 := Hd.mk ht
  clear b1 b2 ht hk
  by_cases h1 : n = 1
  · have H1 := Hd.mk h1
    have d1 : ((n : Int) == 1) = true := by rw [beq_iff_eq]; omega
    clear h1
    go_enter Try.func122, Try.ntmps122
    go_upto_region 1 with fail
    clear hW
    go_wp2_with fail
    go_ret
    exact ⟨W.heap.size, rfl, F0.out.congr (fun j hj => by unfold slT; rw [if_pos H1.out]) (fun j => F64_slT _ _ _ _)⟩
  have d1 : ((n : Int) == 1) = false := by rw [beq_eq_false_iff_ne]; omega
  have n2 : 2 ≤ n := by omega
  have n2' : (2 : Int) ≤ n := by omega
  have n3 : (n : Int) ≤ 256 := by omega
  have S0 := Hd.mk (slT_0 X Y n n2)
  have SE := Hd.mk (slT_e X Y n n2)
  have HR0 : Hd (∀ w1, Tbl w1 ax X ay Y → Calls Try.prog 138 #[.agg #[.int .i64 kind, .slice ax n cx, .slice ay n cy], .int .i64 0] w1 fun e w' => e = .returned (.float .f64 (slT X Y n 0)) ∧ Below w1.heap.size w1 w') := ⟨fun w1 h => by
    rw [S0.out]; exact rise_int kind ax X cx ay Y cy n w1 h HK.out 0 (by decide) (by omega)⟩
  have HRe : Hd (∀ w1, Tbl w1 ax X ay Y → Calls Try.prog 138 #[.agg #[.int .i64 kind, .slice ax n cx, .slice ay n cy], .int .i64 ((n : Int) - 2)] w1 fun e w' => e = .returned (.float .f64 (slT X Y n (n - 1))) ∧ Below w1.heap.size w1 w') := ⟨fun w1 h => by
    have := rise_int kind ax X cx ay Y cy n w1 h HK.out ((n : Int) - 2) (by omega) (by omega)
    rw [show ((n : Int) - 2).toNat = n - 2 by omega] at this
    rw [SE.out]; exact this⟩
  have HRi := Hd.mk fun w1 (h : Tbl w1 ax X ay Y) k (h1 : k + 1 < n) => rise_any kind ax X cx ay Y cy n w1 h HK.out k h1
  have B1' := Hd.mk (B1.out.below ((Below.refl _ W).alloc (Nat.le_refl _) (.cells (madeCells #[.float .f64 0] n) 28)))
  have T' := Hd.mk (T.out.belowK ((Below.refl _ W).alloc (Nat.le_refl _) (.cells (madeCells #[.float .f64 0] n) 28)))
  obtain ⟨bd, hbd⟩ : ∃ bd, W.heap.size = bd := ⟨_, rfl⟩
  go_enter Try.func122, Try.ntmps122
  go_upto_region 1 with fail
  clear hW
  rw [hbd] at F0
  have HBD := Hd.mk hbd
  clear hbd
  go_upto_region 5 with fail
  rw [HBD.out]
  clear hmk
  generalize (W.alloc (.cells (madeCells #[.float .f64 0] n) 28)) = W1 at *
  obtain ⟨y0, y1, y2⟩ := B1'.out.cell
  have TD : Hd (Tbl W1.drew ax X ay Y) := ⟨⟨T'.out.ix.heap rfl, T'.out.fy.heap rfl⟩⟩
  have BD : Hd (BoxT W1.drew w.heap.size kind ax n cx ay n cy) := ⟨B1'.out⟩
  have FD : Hd (FilledF w W1.drew bd n (fun _ => 0)) := ⟨F0.out.drew⟩
  have wr1 : IntKind.i64.wrap ((n : Int) - 1) = (n : Int) - 1 := IntWalk.i64_in _ (by omega)
  have wr2 : IntKind.i64.wrap ((n : Int) - 2) = (n : Int) - 2 := IntWalk.i64_in _ (by omega)
  have wr3 : ((n : Int) - 1).toNat = n - 1 := by omega
  have wr4 : ((n : Int) - 2).toNat = n - 2 := by omega
  have b1 : (1 : Int) ≤ n := by omega
  have b2 : (n : Int) - 1 < n := by omega
  have b3 : (0 : Int) < n := by omega
  have b4 : 0 < n := by omega
  have b5 : ¬ n - 1 = 0 := by omega
  have HG1 := Hd.mk (F64_slT X Y n 0)
  have HG2 := Hd.mk (F64_slT X Y n (n - 1))
  have HNe : Hd (w.heap.size ≠ bd) := ⟨by have := B1.out.lt; rw [HBD.out] at this; omega⟩
  obtain ⟨R0, hR0⟩ : ∃ R, slT X Y n 0 = R := ⟨_, rfl⟩
  obtain ⟨R1, hR1⟩ : ∃ R, slT X Y n (n - 1) = R := ⟨_, rfl⟩
  rw [hR0] at HR0 HG1
  rw [hR1] at HRe HG2
  have HE0 := Hd.mk hR0
  have HE1 := Hd.mk hR1
  clear hR0 hR1 S0 SE
  go_region_held3 (fun w' => w'.cell? ⟨w.heap.size, 0, none⟩ = some (.int .i64 kind) ∧ w'.cell? ⟨w.heap.size, 1, none⟩ = some (.slice ax n cx) ∧ w'.cell? ⟨w.heap.size, 2, none⟩ = some (.slice ay n cy)) (first | with_reducible exact ⟨y0, y1, y2⟩ | with_reducible exact ⟨d0, d1, d2⟩ | with_reducible exact ⟨g0, g1, g2⟩ | with_reducible exact ⟨k0, k1, k2⟩ | with_reducible exact ⟨m0, m1, m2⟩ | (refine ⟨?_, ?_, ?_⟩ <;> go_simp)) (
    first
    | (
    go_at_call 138
    refine (HRe.out _ T3.out).mono ?_
    rintro en w4 ⟨rfl, hb4⟩
    have C4 := Hd.mk (C3.out.below hb4)
    have T4 := Hd.mk (T3.out.belowK hb4)
    have F4 := Hd.mk (F3.out.after hb4)
    have g0 := C4.out.cell.1
    have g1 := C4.out.cell.2.1
    have g2 := C4.out.cell.2.2
    have r0 : w4.cell? ⟨bd, 0, none⟩ = some (.float .f64 0) := F4.out.row.cell (by omega)
    have r1 : w4.cell? ⟨bd, n - 1, none⟩ = some (.float .f64 0) := F4.out.row.cell (by omega)
    have fz : ∀ i, w4.frozen? ⟨bd, i, none⟩ = false := F4.out.row.frozen
    have C5 := Hd.mk (C4.out.set HNe.out 0 (.float .f64 R0))
    have C6 := Hd.mk (C5.out.set HNe.out (n - 1) (.float .f64 R1))
    have F5 := Hd.mk (F4.out.set 0 R0 HG1.out)
    have F6 := Hd.mk (F5.out.set (n - 1) R1 HG2.out)
    have r2 : (w4.setCell ⟨bd, 0, none⟩ (.float .f64 R0)).cell? ⟨bd, n - 1, none⟩ = some (.float .f64 0) := by
      have := F5.out.row.cell (i := n - 1) (by omega)
      rw [this]; unfold upd; rw [if_neg b5]
    have fz2 : ∀ i, (w4.setCell ⟨bd, 0, none⟩ (.float .f64 R0)).frozen? ⟨bd, i, none⟩ = false := F5.out.row.frozen
    have k0 := C5.out.cell.1
    have k1 := C5.out.cell.2.1
    have k2 := C5.out.cell.2.2
    have m0 := C6.out.cell.1
    have m1 := C6.out.cell.2.1
    have m2 := C6.out.cell.2.2
    clear hb4)
    | (
    go_at_call 138
    refine (HR0.out _ TD.out).mono ?_
    rintro en w3 ⟨rfl, hb3⟩
    have C3 := Hd.mk (BD.out.below hb3)
    have T3 := Hd.mk (TD.out.belowK hb3)
    have F3 := Hd.mk (FD.out.after hb3)
    have d0 := C3.out.cell.1
    have d1 := C3.out.cell.2.1
    have d2 := C3.out.cell.2.2
    clear hb3))
  have W0 : Hd (∀ j, j < 1 → upd (upd (fun _ => 0) 0 R0) (n - 1) R1 j = slT X Y n j) := ⟨fun j hj => by
    obtain rfl : j = 0 := by omega
    unfold upd; rw [if_neg (fun e => b5 e.symm), if_pos rfl, HE0.out]⟩
  have W1' : Hd (upd (upd (fun _ => 0) 0 R0) (n - 1) R1 (n - 1) = slT X Y n (n - 1)) := ⟨by unfold upd; rw [if_pos rfl, HE1.out]⟩
  have W2 : Hd (∀ j, 0 + 1 ≤ j → j + 1 < n → upd (upd (fun _ => 0) 0 R0) (n - 1) R1 j = 0) := ⟨fun j h1 h2 => by
    unfold upd; rw [if_neg (by omega), if_neg (by omega)]⟩
  clear y0 y1 y2 d0 d1 d2 g0 g1 g2 k0 k1 k2 m0 m1 m2 r0 r1 r2 fz fz2 F5 C5 C4 F4 C3 F3 T3 T4 TD BD FD F0 B1' T' HR0 HRe HE0 HE1 HG1 HG2
  go_wp2_with fail
  generalize (w4.setCell ⟨bd, 0, none⟩ (.float .f64 R0)).setCell ⟨bd, n - 1, none⟩ (.float .f64 R1) = w6 at *
  generalize upd (upd (fun _ => 0) 0 R0) (n - 1) R1 = f0 at *
  go_loopw [30] (fun iv wr => ∃ (k : Nat) (f : Nat → Nat), k + 2 ≤ n ∧ iv = .int .i64 k ∧ Hd (FilledF w wr bd n f) ∧ Hd (BoxT wr w.heap.size kind ax n cx ay n cy) ∧ Hd (∀ j, j < k + 1 → f j = slT X Y n j) ∧ Hd (f (n - 1) = slT X Y n (n - 1)) ∧ Hd (∀ j, k + 1 ≤ j → j + 1 < n → f j = 0)) (fun iv _ => n - (intOf iv).toNat)
  case atStart => exact ⟨0, f0, n2, rfl, F6, C6, W0, W1', W2⟩
  case round =>
    clear F6 C6 W0 W1' W2
    obtain ⟨k, f, hk, rfl, HF, HC, HW, HE, HZ⟩ := hrel
    by_cases hlt : k + 2 < n
    · have hlt' : (k : Int) < (n : Int) - 2 := by omega
      obtain ⟨y0, y1, y2⟩ := HC.out.cell
      have TD : Hd (Tbl wr.drew ax X ay Y) := ⟨⟨(HT0.out.belowK HF.out.below).ix.heap rfl, (HT0.out.belowK HF.out.below).fy.heap rfl⟩⟩
      have BD : Hd (BoxT wr.drew w.heap.size kind ax n cx ay n cy) := ⟨HC.out⟩
      have FD : Hd (FilledF w wr.drew bd n f) := ⟨HF.out.drew⟩
      have HA := Hd.mk fun w1 h => HRi.out w1 h k (by omega)
      have HB := Hd.mk fun w1 h => HRi.out w1 h (k + 1) (by omega)
      rw [show (((k + 1 : Nat)) : Int) = (k : Int) + 1 by omega] at HB
      have SM := Hd.mk (slT_m X Y n k hlt)
      have NA := Hd.mk (nn_rsT HK.out (show k + 1 < n by omega))
      have NB := Hd.mk (nn_rsT HK.out (show k + 1 + 1 < n by omega))
      have FA := Hd.mk (F64_rsT X Y k)
      have FB := Hd.mk (F64_rsT X Y (k + 1))
      generalize rsT X Y k = A at *
      generalize rsT X Y (k + 1) = B at *
      have wr5 : IntKind.i64.wrap ((k : Int) + 1) = (k : Int) + 1 := IntWalk.i64_in _ (by omega)
      have wr6 : ((k : Int) + 1).toNat = k + 1 := by omega
      have c1 : (0 : Int) ≤ (k : Int) + 1 := by omega
      have c2 : (k : Int) + 1 < n := by omega
      have c0 : (0 : Int) ≤ k := by omega
      go_wp2_with fail
      go_region_held3 (fun w' => w'.cell? ⟨w.heap.size, 0, none⟩ = some (.int .i64 kind) ∧ w'.cell? ⟨w.heap.size, 1, none⟩ = some (.slice ax n cx) ∧ w'.cell? ⟨w.heap.size, 2, none⟩ = some (.slice ay n cy)) (first | with_reducible exact ⟨y0, y1, y2⟩ | with_reducible exact ⟨d0, d1, d2⟩ | with_reducible exact ⟨g0, g1, g2⟩ | (refine ⟨?_, ?_, ?_⟩ <;> go_simp)) (
        first
        | (
        go_at_call 138
        refine (HB.out _ T3.out).mono ?_
        rintro en w5 ⟨rfl, hb4⟩
        have C4 := Hd.mk (C3.out.below hb4)
        have F4 := Hd.mk (F3.out.after hb4)
        have g0 := C4.out.cell.1
        have g1 := C4.out.cell.2.1
        have g2 := C4.out.cell.2.2
        have r0 : w5.cell? ⟨bd, k + 1, none⟩ = some (.float .f64 (f (k + 1))) := F4.out.row.cell (by omega)
        have fz : ∀ i, w5.frozen? ⟨bd, i, none⟩ = false := F4.out.row.frozen
        clear hb4)
        | (
        go_at_call 138
        refine (HA.out _ TD.out).mono ?_
        rintro en w3 ⟨rfl, hb3⟩
        have C3 := Hd.mk (BD.out.below hb3)
        have T3 := Hd.mk (TD.out.belowK hb3)
        have F3 := Hd.mk (FD.out.after hb3)
        have d0 := C3.out.cell.1
        have d1 := C3.out.cell.2.1
        have d2 := C3.out.cell.2.2
        clear hb3))
      clear y0 y1 y2 d0 d1 d2 g0 g1 g2 C3 F3 T3 TD BD FD HA HB
      have HGo : Hd (∀ g : Nat → Nat, (∀ j, j ≠ k + 1 → g j = f j) → g (k + 1) = slT X Y n (k + 1) → (∀ j, j < k + 1 + 1 → g j = slT X Y n j) ∧ g (n - 1) = slT X Y n (n - 1) ∧ (∀ j, k + 1 + 1 ≤ j → j + 1 < n → g j = 0)) := ⟨fun g e1 e2 => ⟨fun j hj => by
          by_cases e : j = k + 1
          · rw [e, e2]
          · rw [e1 j e, HW.out j (by omega)], by rw [e1 _ (by omega), HE.out], fun j h1 h2 => by rw [e1 j (by omega), HZ.out j (by omega) h2]⟩⟩
      have HV : Hd (hmT A B = fdiv two64f (fadd (fdiv one64 A) (fdiv one64 B)) → nn (fdiv one64 A) = false ∧ nn (fdiv one64 B) = false ∧ nn (fadd (fdiv one64 A) (fdiv one64 B)) = false ∧ nn (fdiv two64f (fadd (fdiv one64 A) (fdiv one64 B))) = false) := ⟨fun h => by
        have o1 := one_ok
        have nv := nn_hmT FA.out FB.out NA.out NB.out
        rw [h] at nv
        refine ⟨nnDivF o1.1 FA.out o1.2.1 o1.2.2.1 NA.out, nnDivF o1.1 FB.out o1.2.1 o1.2.2.1 NB.out, ?_, nv⟩
        cases hn : nn (fadd (fdiv one64 A) (fdiv one64 B))
        · rfl
        · rw [fdiv_nr _ _ (F64_fadd _ _) hn, nn_NaNc] at nv; cases nv⟩
      have ways := hm_ways A B FA.out FB.out
      clear hlt
      rcases ways with ⟨t1, t2, H⟩ | ⟨t1, t2, t3, H⟩ | ⟨t1, t2, t3, H⟩ | ⟨t1, t2, t3, H⟩ | ⟨t1, t2, H⟩
      · obtain ⟨n1, n2, n3, n4⟩ := HV.out H.out
        obtain ⟨q1, q2⟩ : (∀ w, fres .quo 4607182418800017408 A w = fdiv one64 A) ∧ fcnt .quo 4607182418800017408 A = 0 := fx_quo n1
        obtain ⟨q3, q4⟩ : (∀ w, fres .quo 4607182418800017408 B w = fdiv one64 B) ∧ fcnt .quo 4607182418800017408 B = 0 := fx_quo n2
        obtain ⟨q5, q6⟩ := fx_add n3
        obtain ⟨q7, q8⟩ : (∀ w, fres .quo 4611686018427387904 (fadd (fdiv one64 A) (fdiv one64 B)) w = fdiv two64f (fadd (fdiv one64 A) (fdiv one64 B))) ∧ fcnt .quo 4611686018427387904 (fadd (fdiv one64 A) (fdiv one64 B)) = 0 := fx_quo n4
        have HD := Hd.mk (F64_fdiv two64f (fadd (fdiv one64 A) (fdiv one64 B)))
        have HS : Hd (fdiv two64f (fadd (fdiv one64 A) (fdiv one64 B)) = slT X Y n (k + 1)) := ⟨by rw [SM.out, H.out]⟩
        generalize fdiv two64f (fadd (fdiv one64 A) (fdiv one64 B)) = V at *
        generalize fadd (fdiv one64 A) (fdiv one64 B) = S at *
        generalize fdiv one64 A = I1 at *
        generalize fdiv one64 B = I2 at *
        clear n1 n2 n3 n4
        go_wp2_with fail
        have G := HGo.out (upd f (k + 1) V) (fun j hj => by unfold upd; rw [if_neg hj]) (by unfold upd; rw [if_pos rfl, HS.out])
        exact ⟨⟨k + 1, _, by omega, by go_num, ⟨F4.out.set (k + 1) V HD.out⟩, ⟨C4.out.set HNe.out (k + 1) _⟩, ⟨G.1⟩, ⟨G.2.1⟩, ⟨G.2.2⟩⟩, by simp [intOf]; omega⟩
      · have G := Hd.mk (HGo.out f (fun j hj => rfl) (by rw [SM.out, H.out]; exact HZ.out _ (by omega) (by omega)))
        go_wp2_with fail
        exact ⟨⟨k + 1, f, by omega, by go_num, F4, C4, ⟨G.out.1⟩, ⟨G.out.2.1⟩, ⟨G.out.2.2⟩⟩, by simp [intOf]; omega⟩
      · obtain ⟨n1, n2, n3, n4⟩ := HV.out H.out
        obtain ⟨q1, q2⟩ : (∀ w, fres .quo 4607182418800017408 A w = fdiv one64 A) ∧ fcnt .quo 4607182418800017408 A = 0 := fx_quo n1
        obtain ⟨q3, q4⟩ : (∀ w, fres .quo 4607182418800017408 B w = fdiv one64 B) ∧ fcnt .quo 4607182418800017408 B = 0 := fx_quo n2
        obtain ⟨q5, q6⟩ := fx_add n3
        obtain ⟨q7, q8⟩ : (∀ w, fres .quo 4611686018427387904 (fadd (fdiv one64 A) (fdiv one64 B)) w = fdiv two64f (fadd (fdiv one64 A) (fdiv one64 B))) ∧ fcnt .quo 4611686018427387904 (fadd (fdiv one64 A) (fdiv one64 B)) = 0 := fx_quo n4
        have HD := Hd.mk (F64_fdiv two64f (fadd (fdiv one64 A) (fdiv one64 B)))
        have HS : Hd (fdiv two64f (fadd (fdiv one64 A) (fdiv one64 B)) = slT X Y n (k + 1)) := ⟨by rw [SM.out, H.out]⟩
        generalize fdiv two64f (fadd (fdiv one64 A) (fdiv one64 B)) = V at *
        generalize fadd (fdiv one64 A) (fdiv one64 B) = S at *
        generalize fdiv one64 A = I1 at *
        generalize fdiv one64 B = I2 at *
        clear n1 n2 n3 n4
        go_wp2_with fail
        have G := HGo.out (upd f (k + 1) V) (fun j hj => by unfold upd; rw [if_neg hj]) (by unfold upd; rw [if_pos rfl, HS.out])
        exact ⟨⟨k + 1, _, by omega, by go_num, ⟨F4.out.set (k + 1) V HD.out⟩, ⟨C4.out.set HNe.out (k + 1) _⟩, ⟨G.1⟩, ⟨G.2.1⟩, ⟨G.2.2⟩⟩, by simp [intOf]; omega⟩
      · have G := Hd.mk (HGo.out f (fun j hj => rfl) (by rw [SM.out, H.out]; exact HZ.out _ (by omega) (by omega)))
        go_wp2_with fail
        exact ⟨⟨k + 1, f, by omega, by go_num, F4, C4, ⟨G.out.1⟩, ⟨G.out.2.1⟩, ⟨G.out.2.2⟩⟩, by simp [intOf]; omega⟩
      · have G := Hd.mk (HGo.out f (fun j hj => rfl) (by rw [SM.out, H.out]; exact HZ.out _ (by omega) (by omega)))
        go_wp2_with fail
        exact ⟨⟨k + 1, f, by omega, by go_num, F4, C4, ⟨G.out.1⟩, ⟨G.out.2.1⟩, ⟨G.out.2.2⟩⟩, by simp [intOf]; omega⟩
    · have hge : ¬ (k : Int) < (n : Int) - 2 := by omega
      have hk2 : k + 2 = n := by omega
      have HF2 := Hd.mk (HF.out.congr (g := slT X Y n) (fun j hj => by
        by_cases e : j = n - 1
        · rw [e, HE.out]
        · exact HW.out j (by omega)) (fun j => F64_slT _ _ _ _))
      clear hlt hk2
      go_wp2_with fail
      go_ret
      exact ⟨bd, rfl, HF2.out⟩

end Go.Proofs.Yteikihidblcljaa

/- The walks of interp's Slopes, points and Points. -/
namespace Go.Proofs.Yteikihidblcljaa
open Go.RowKit
set_option linter.unusedSimpArgs false
set_option linter.unusedVariables false

theorem TOk.eq_len {X : List Int} {Y : List Nat} (h : TOk X Y X.length) : Y.length = X.length := h.ly

set_option maxHeartbeats 1600000 in
set_option maxRecDepth 100000 in
/-- Of a table that may not be. -/
theorem slopesX_bad (kind : Int) (ax : Option Addr) (X : List Int) (cx : Nat) (ay : Option Addr) (Y : List Nat) (cy : Nat) (w : World) (ht : Tbl w ax X ay Y) (hc : chkT kind X Y ≠ 0) :
    Calls Try.prog 84 #[.agg #[.int .i64 kind, .slice ax X.length cx, .slice ay Y.length cy]] w fun e w' => e = .returned (.tuple #[.slice none 0 0, .int .i64 (chkT kind X Y)]) ∧ Below w.heap.size w w' := by
  have HCk := Hd.mk fun w1 h => check_any kind ax X cx ay Y cy w1 h
  have d1 : (chkT kind X Y != 0) = true := by rw [bne_iff_ne]; exact hc
  generalize chkT kind X Y = E at *
  generalize X.length = n at *
  generalize Y.length = m at *
  obtain ⟨W, hW, b1, b2⟩ := box_t w kind ax n cx ay m cy
  obtain ⟨x0, x1, x2⟩ := b1.cell
  have B2 := Hd.mk b2
  have T := Hd.mk (ht.belowK b2)
  clear b1 b2 ht hc
  go_enter Try.func84, Try.ntmps84
  go_upto_region 1 with fail
  clear hW
  go_wp2_with fail
  refine (HCk.out _ T.out).mono ?_; rintro e w1 ⟨rfl, hb⟩
  have B3 := Hd.mk (B2.out.trans (hb.mono B2.out.size))
  clear hb
  go_wp2_with fail
  go_ret2
  exact ⟨rfl, B3.out⟩

/-- A row and no error. -/
def RowRet2 (n : Nat) (f : Nat → Nat) (w : World) (e : Ending) (w' : World) : Prop := ∃ b, e = .returned (.tuple #[.slice (some ⟨b, 0, none⟩) n n, .int .i64 0]) ∧ FilledF w w' b n f
theorem FilledF.base {w w1 w' : World} {b n : Nat} {f : Nat → Nat} (h : FilledF w1 w' b n f) (hb : Below w.heap.size w w1) : FilledF w w' b n f :=
  ⟨hb.trans (h.below.mono hb.size), Nat.le_trans hb.size h.own, h.row, h.dig⟩

set_option maxHeartbeats 1600000 in
set_option maxRecDepth 100000 in
theorem slopesX_ok (kind : Int) (ax : Option Addr) (X : List Int) (cx : Nat) (ay : Option Addr) (Y : List Nat) (cy : Nat) (w : World) (ht : Tbl w ax X ay Y) (hc : chkT kind X Y = 0) :
    Calls Try.prog 84 #[.agg #[.int .i64 kind, .slice ax X.length cx, .slice ay Y.length cy]] w (RowRet2 X.length (slT X Y X.length) w) := by
  have HCk := Hd.mk fun w1 h => check_any kind ax X cx ay Y cy w1 h
  have hk := (chk_ok hc ht.fy.wf).1
  rw [hc, hk.ly] at HCk
  have HS := Hd.mk fun w1 h => slopes_any kind ax X cx ay Y cy X.length w1 h hk
  rw [hk.ly]
  generalize X.length = n at *
  generalize slT X Y n = f at *
  obtain ⟨W, hW, b1, b2⟩ := box_t w kind ax n cx ay n cy
  obtain ⟨x0, x1, x2⟩ := b1.cell
  have B1 := Hd.mk b1
  have B2 := Hd.mk b2
  have T := Hd.mk (ht.belowK b2)
  clear b1 b2 ht hc hk
  go_enter Try.func84, Try.ntmps84
  go_upto_region 1 with fail
  clear hW
  go_wp2_with fail
  refine (HCk.out _ T.out).mono ?_; rintro e w1 ⟨rfl, hb⟩
  obtain ⟨y0, y1, y2⟩ := (B1.out.below hb).cell
  have B3 := Hd.mk (B2.out.trans (hb.mono B2.out.size))
  have T3 := Hd.mk (T.out.belowK hb)
  clear hb x0 x1 x2 T B1 B2
  go_wp2_with fail
  refine (HS.out _ T3.out).mono ?_; rintro e w2 ⟨b, rfl, hf⟩
  have F := Hd.mk (hf.base B3.out)
  clear hf
  go_wp2_with fail
  go_ret2
  exact ⟨b, rfl, F.out⟩

/-- The four points. -/
def ptT (X : List Int) (Y : List Nat) (n k : Nat) : List Nat := [Y.getD k 0, pcT X Y n k, peT X Y n k, Y.getD (k + 1) 0]
def ptF (X : List Int) (Y : List Nat) (n k : Nat) : Nat → Nat := fun j => (ptT X Y n k).getD j 0
theorem F64_ptF {X : List Int} {Y : List Nat} {n k : Nat} (h : TOk X Y n) (j : Nat) : F64 (ptF X Y n k j) := by
  unfold ptF ptT
  match j with
  | 0 => exact h.wf _
  | 1 => exact F64_pcT h
  | 2 => exact F64_peT h
  | 3 => exact h.wf _
  | j + 4 => exact ⟨by simp⟩
theorem rowL_ptF (X : List Int) (Y : List Nat) (n k : Nat) : rowL 4 (ptF X Y n k) = ptT X Y n k := by unfold rowL ptF ptT; rfl

set_option maxHeartbeats 3200000 in
set_option maxRecDepth 100000 in
theorem points_any (kind : Int) (ax : Option Addr) (X : List Int) (cx : Nat) (ay : Option Addr) (Y : List Nat) (cy : Nat) (n : Nat) (w : World) (ht : Tbl w ax X ay Y) (hk : TOk X Y n) (k : Nat) (hkn : k + 1 < n) :
    Calls Try.prog 123 #[.agg #[.int .i64 kind, .slice ax n cx, .slice ay n cy], .int .i64 k] w (RowRet 4 (ptF X Y n k) w) := by
  have HS := Hd.mk fun w1 h => slopes_any kind ax X cx ay Y cy n w1 h hk
  have nmax := hk.max
  have HP : Hd (∀ j, F64 (ptF X Y n k j)) := ⟨fun j => F64_ptF hk j⟩
  have HPt : Hd (∀ j, j < 4 → (#[Value.float .f64 (Y.getD k 0), .float .f64 (pcT X Y n k), .float .f64 (peT X Y n k), .float .f64 (Y.getD (k + 1) 0)] : Array Value)[j]? = some (.float .f64 (ptF X Y n k j))) := ⟨fun j hj => by
    unfold ptF ptT
    match j, hj with
    | 0, _ => rfl
    | 1, _ => rfl
    | 2, _ => rfl
    | 3, _ => rfl⟩
  have st := hk.step hkn
  have fi := hk.fi hkn
  obtain ⟨th1, th2, th3, _⟩ := thr_ok
  have fa := hk.fn k (by omega)
  have fb := hk.fn (k + 1) hkn
  have wa := hk.wf k
  have wb := hk.wf (k + 1)
  have na := nn_fin _ fa
  have nb := nn_fin _ fb
  have nc := (pc_ok hk hkn).1
  have wc : F64 (pcT X Y n k) := F64_pcT hk
  have s0w := F64_slT X Y n k
  have s1w := F64_slT X Y n (k + 1)
  have s0n := nn_slT hk (show k < n by omega)
  have s1n := nn_slT hk hkn
  have m0 : nn (fmul (slT X Y n k) (FI (X.getD (k + 1) 0 - X.getD k 0))) = false := nnMul s0w fi.1 s0n fi.2.1 fi.2.2
  have m1 : nn (fmul (slT X Y n (k + 1)) (FI (X.getD (k + 1) 0 - X.getD k 0))) = false := nnMul s1w fi.1 s1n fi.2.1 fi.2.2
  have q0 : nn (fdiv (fmul (slT X Y n k) (FI (X.getD (k + 1) 0 - X.getD k 0))) thr64) = false := nnDiv (F64_fmul _ _) th1 m0 th2 th3
  have q1 : nn (fdiv (fmul (slT X Y n (k + 1)) (FI (X.getD (k + 1) 0 - X.getD k 0))) thr64) = false := nnDiv (F64_fmul _ _) th1 m1 th2 th3
  have a0 := nnAdd wa (F64_fdiv (fmul (slT X Y n k) (FI (X.getD (k + 1) 0 - X.getD k 0))) thr64) fa q0
  have a1 := nnSub wb (F64_fdiv (fmul (slT X Y n (k + 1)) (FI (X.getD (k + 1) 0 - X.getD k 0))) thr64) fb q1
  have HH0 : Hd (∀ w, Calls Try.prog 126 #[.float .f64 (fadd (Y.getD k 0) (fdiv (fmul (slT X Y n k) (FI (X.getD (k + 1) 0 - X.getD k 0))) thr64)), .float .f64 (Y.getD k 0), .float .f64 (Y.getD (k + 1) 0)] w fun e w' => e = .returned (.float .f64 (pcT X Y n k)) ∧ w = w') := ⟨fun w => held_any _ _ _ (F64_fadd _ _) wa wb na nb w⟩
  have HH1 : Hd (∀ w, Calls Try.prog 126 #[.float .f64 (fsub (Y.getD (k + 1) 0) (fdiv (fmul (slT X Y n (k + 1)) (FI (X.getD (k + 1) 0 - X.getD k 0))) thr64)), .float .f64 (pcT X Y n k), .float .f64 (Y.getD (k + 1) 0)] w fun e w' => e = .returned (.float .f64 (peT X Y n k)) ∧ w = w') := ⟨fun w => held_any _ _ _ (F64_fsub _ _) wc wb nc nb w⟩
  obtain ⟨e1, e2⟩ := fx_mul m0
  obtain ⟨e3, e4⟩ := fx_mul m1
  obtain ⟨e5, e6⟩ : (∀ w, fres .quo (fmul (slT X Y n k) (FI (X.getD (k + 1) 0 - X.getD k 0))) 4613937818241073152 w = fdiv (fmul (slT X Y n k) (FI (X.getD (k + 1) 0 - X.getD k 0))) thr64) ∧ fcnt .quo (fmul (slT X Y n k) (FI (X.getD (k + 1) 0 - X.getD k 0))) 4613937818241073152 = 0 := fx_quo q0
  obtain ⟨e7, e8⟩ : (∀ w, fres .quo (fmul (slT X Y n (k + 1)) (FI (X.getD (k + 1) 0 - X.getD k 0))) 4613937818241073152 w = fdiv (fmul (slT X Y n (k + 1)) (FI (X.getD (k + 1) 0 - X.getD k 0))) thr64) ∧ fcnt .quo (fmul (slT X Y n (k + 1)) (FI (X.getD (k + 1) 0 - X.getD k 0))) 4613937818241073152 = 0 := fx_quo q1
  obtain ⟨e9, e10⟩ := fx_add a0
  obtain ⟨e11, e12⟩ := fx_sub a1
  have l1 := hk.lo k (by omega)
  have l2 := hk.hi (k + 1) hkn
  have wr3 : IntKind.i64.wrap (X.getD (k + 1) 0 - X.getD k 0) = X.getD (k + 1) 0 - X.getD k 0 := IntWalk.i64_in _ (by omega)
  have HL := Hd.mk (And.intro hk.lx hk.ly)
  obtain ⟨W, hW, b1, b2⟩ := box_t w kind ax n cx ay n cy
  obtain ⟨x0, x1, x2⟩ := b1.cell
  have B1 := Hd.mk b1
  have B2 := Hd.mk b2
  have T := Hd.mk (ht.belowK b2)
  clear b1 b2 ht hk fi th1 th2 th3 fa fb wa wb na nb nc wc s0w s1w s0n s1n m0 m1 q0 q1 a0 a1 st l1 l2
  have D0 : (slT X Y n) k = slT X Y n k := rfl
  have k0 : (0 : Int) ≤ k := by omega
  have k1 : (k : Int) + 1 < n := by omega
  have k4 : (0 : Int) ≤ (k : Int) + 1 := by omega
  have k2 : (k : Int) < n := by omega
  have k3 : (n : Int) ≤ 256 := by omega
  have wr1 : IntKind.i64.wrap ((k : Int) + 1) = (k : Int) + 1 := IntWalk.i64_in _ (by omega)
  have wr2 : ((k : Int) + 1).toNat = k + 1 := by omega
  have HN1 : Hd (k < n ∧ k + 1 < n) := ⟨by omega, hkn⟩
  clear D0 hkn nmax
  go_enter Try.func123, Try.ntmps123
  go_upto_region 1 with fail
  clear hW
  go_wp2_with fail
  refine (HS.out _ T.out).mono ?_; rintro e w1 ⟨b, rfl, hf⟩
  have F := Hd.mk (hf.base B2.out)
  obtain ⟨y0, y1, y2⟩ := (B1.out.below hf.below).cell
  have T1 := Hd.mk (T.out.belowK hf.below)
  have r0 : w1.cell? ⟨b, k, none⟩ = some (.float .f64 (slT X Y n k)) := hf.row.cell HN1.out.1
  have r1 : w1.cell? ⟨b, k + 1, none⟩ = some (.float .f64 (slT X Y n (k + 1))) := hf.row.cell HN1.out.2
  obtain ⟨bx, ox, hax, c1⟩ := T1.out.ix.at k (by rw [HL.out.1]; exact HN1.out.1)
  obtain ⟨bx', ox', hax', c2⟩ := T1.out.ix.at (k + 1) (by rw [HL.out.1]; exact HN1.out.2)
  rw [hax] at hax'
  cases hax'
  obtain ⟨by_, oy, hay, c3⟩ := T1.out.fy.at k (by rw [HL.out.2]; exact HN1.out.1)
  obtain ⟨by', oy', hay', c4⟩ := T1.out.fy.at (k + 1) (by rw [HL.out.2]; exact HN1.out.2)
  rw [hay] at hay'
  cases hay'
  subst hax
  subst hay
  clear hf x0 x1 x2 T T1 B1 B2 HS
  have HFI : Hd (∀ m, FI m = floatOfInt .f64 m) := ⟨fun m => rfl⟩
  rw [HFI.out] at HH0 HH1 e1 e2 e3 e4 e5 e6 e7 e8 e9 e10 e11 e12
  generalize slT X Y n k = s0 at *
  generalize slT X Y n (k + 1) = s1 at *
  generalize pcT X Y n k = pc at *
  generalize peT X Y n k = pe at *
  generalize X.getD (k + 1) 0 = xa at *
  generalize X.getD k 0 = xb at *
  generalize Y.getD (k + 1) 0 = ya at *
  generalize Y.getD k 0 = yb at *
  generalize hv1 : fadd yb (fdiv (fmul s0 (floatOfInt .f64 (xa - xb))) thr64) = v1 at *
  generalize hv2 : fsub ya (fdiv (fmul s1 (floatOfInt .f64 (xa - xb))) thr64) = v2 at *
  generalize hv3 : fdiv (fmul s0 (floatOfInt .f64 (xa - xb))) thr64 = v3 at *
  generalize hv4 : fdiv (fmul s1 (floatOfInt .f64 (xa - xb))) thr64 = v4 at *
  generalize hv5 : fmul s0 (floatOfInt .f64 (xa - xb)) = v5 at *
  generalize hv6 : fmul s1 (floatOfInt .f64 (xa - xb)) = v6 at *
  clear hv1 hv2 hv3 hv4 hv5 hv6
  go_wp2_with fail
  go_quiet (fail)
  go_wp2_with fail
  go_quiet (fail)
  go_wp2_with fail
  refine (HH0.out _).mono ?_; rintro e w' ⟨rfl, rfl⟩
  go_wp2_with fail
  refine (HH1.out _).mono ?_; rintro e w' ⟨rfl, rfl⟩
  go_wp2_with fail
  go_ret
  refine ⟨w1.heap.size, rfl, ?_⟩
  have BD := fun a => (below_drewN F.out.below a)
  exact ⟨(BD _).alloc (BD _).size _, F.out.below.size, World.rowIs_alloc _ _ _ _ (fun i hi => HPt.out i (by simpa using hi)), HP.out⟩

set_option maxHeartbeats 1600000 in
set_option maxRecDepth 100000 in
theorem pointsX_bad (kind : Int) (ax : Option Addr) (X : List Int) (cx : Nat) (ay : Option Addr) (Y : List Nat) (cy : Nat) (k : Int) (w : World) (ht : Tbl w ax X ay Y) (hc : chkT kind X Y ≠ 0) :
    Calls Try.prog 85 #[.agg #[.int .i64 kind, .slice ax X.length cx, .slice ay Y.length cy], .int .i64 k] w fun e w' => e = .returned (.tuple #[.slice none 0 0, .int .i64 (chkT kind X Y)]) ∧ Below w.heap.size w w' := by
  have HCk := Hd.mk fun w1 h => check_any kind ax X cx ay Y cy w1 h
  have d1 : (chkT kind X Y != 0) = true := by rw [bne_iff_ne]; exact hc
  generalize chkT kind X Y = E at *
  generalize X.length = n at *
  generalize Y.length = m at *
  obtain ⟨W, hW, b1, b2⟩ := box_t w kind ax n cx ay m cy
  obtain ⟨x0, x1, x2⟩ := b1.cell
  have B2 := Hd.mk b2
  have T := Hd.mk (ht.belowK b2)
  clear b1 b2 ht hc
  go_enter Try.func85, Try.ntmps85
  go_upto_region 1 with fail
  clear hW
  go_wp2_with fail
  refine (HCk.out _ T.out).mono ?_; rintro e w1 ⟨rfl, hb⟩
  have B3 := Hd.mk (B2.out.trans (hb.mono B2.out.size))
  clear hb
  go_wp2_with fail
  go_ret2
  exact ⟨rfl, B3.out⟩

set_option maxHeartbeats 1600000 in
set_option maxRecDepth 100000 in
theorem pointsX_out (kind : Int) (ax : Option Addr) (X : List Int) (cx : Nat) (ay : Option Addr) (Y : List Nat) (cy : Nat) (k : Int) (w : World) (ht : Tbl w ax X ay Y) (hc : chkT kind X Y = 0) (hk : k < 0 ∨ (X.length : Int) - 1 ≤ k) :
    Calls Try.prog 85 #[.agg #[.int .i64 kind, .slice ax X.length cx, .slice ay Y.length cy], .int .i64 k] w fun e w' => e = .returned (.tuple #[.slice none 0 0, .int .i64 51]) ∧ Below w.heap.size w w' := by
  have HCk := Hd.mk fun w1 h => check_any kind ax X cx ay Y cy w1 h
  have nmax := (chk_ok hc ht.fy.wf).1.max
  rw [hc] at HCk
  generalize X.length = n at *
  generalize Y.length = m at *
  have wr1 : IntKind.i64.wrap ((n : Int) - 1) = (n : Int) - 1 := IntWalk.i64_in _ (by omega)
  have n0 : (0 : Int) ≤ n := by omega
  have n1 : (n : Int) ≤ 256 := by omega
  obtain ⟨W, hW, b1, b2⟩ := box_t w kind ax n cx ay m cy
  obtain ⟨x0, x1, x2⟩ := b1.cell
  have B1 := Hd.mk b1
  have B2 := Hd.mk b2
  have T := Hd.mk (ht.belowK b2)
  clear b1 b2 ht hc nmax
  by_cases h0 : k < 0
  · have d0 := decide_eq_true h0
    clear hk
    go_enter Try.func85, Try.ntmps85
    go_upto_region 1 with fail
    clear hW
    go_wp2_with fail
    refine (HCk.out _ T.out).mono ?_; rintro e w1 ⟨rfl, hb⟩
    obtain ⟨y0, y1, y2⟩ := (B1.out.below hb).cell
    have B3 := Hd.mk (B2.out.trans (hb.mono B2.out.size))
    clear hb x0 x1 x2
    go_wp2_with fail
    go_ret2
    exact ⟨rfl, B3.out⟩
  · have d0 := decide_eq_false h0
    have d1 : decide (k ≥ (n : Int) - 1) = true := by simp; omega
    have d2 : (n : Int) - 1 ≤ k := by omega
    clear hk h0
    go_enter Try.func85, Try.ntmps85
    go_upto_region 1 with fail
    clear hW
    go_wp2_with fail
    refine (HCk.out _ T.out).mono ?_; rintro e w1 ⟨rfl, hb⟩
    obtain ⟨y0, y1, y2⟩ := (B1.out.below hb).cell
    have B3 := Hd.mk (B2.out.trans (hb.mono B2.out.size))
    clear hb x0 x1 x2
    go_wp2_with fail
    go_ret2
    exact ⟨rfl, B3.out⟩

set_option maxHeartbeats 1600000 in
set_option maxRecDepth 100000 in
theorem pointsX_ok (kind : Int) (ax : Option Addr) (X : List Int) (cx : Nat) (ay : Option Addr) (Y : List Nat) (cy : Nat) (k : Nat) (w : World) (ht : Tbl w ax X ay Y) (hc : chkT kind X Y = 0) (hk : k + 1 < X.length) :
    Calls Try.prog 85 #[.agg #[.int .i64 kind, .slice ax X.length cx, .slice ay Y.length cy], .int .i64 k] w (RowRet2 4 (ptF X Y X.length k) w) := by
  have HCk := Hd.mk fun w1 h => check_any kind ax X cx ay Y cy w1 h
  have ok := (chk_ok hc ht.fy.wf).1
  rw [hc, ok.ly] at HCk
  have HS := Hd.mk fun w1 h => points_any kind ax X cx ay Y cy X.length w1 h ok k hk
  have nmax := ok.max
  rw [ok.ly]
  generalize ptF X Y X.length k = f at *
  generalize X.length = n at *
  have wr1 : IntKind.i64.wrap ((n : Int) - 1) = (n : Int) - 1 := IntWalk.i64_in _ (by omega)
  have n0 : (0 : Int) ≤ n := by omega
  have n1 : (n : Int) ≤ 256 := by omega
  have d1 : decide ((k : Int) ≥ (n : Int) - 1) = false := by simp; omega
  have d2 : (k : Int) < (n : Int) - 1 := by omega
  have d3 : decide ((k : Int) < 0) = false := by simp
  obtain ⟨W, hW, b1, b2⟩ := box_t w kind ax n cx ay n cy
  obtain ⟨x0, x1, x2⟩ := b1.cell
  have B1 := Hd.mk b1
  have B2 := Hd.mk b2
  have T := Hd.mk (ht.belowK b2)
  clear b1 b2 ht hc nmax ok hk
  go_enter Try.func85, Try.ntmps85
  go_upto_region 1 with fail
  clear hW
  go_wp2_with fail
  refine (HCk.out _ T.out).mono ?_; rintro e w1 ⟨rfl, hb⟩
  obtain ⟨y0, y1, y2⟩ := (B1.out.below hb).cell
  have B3 := Hd.mk (B2.out.trans (hb.mono B2.out.size))
  have T3 := Hd.mk (T.out.belowK hb)
  clear hb x0 x1 x2 T B1 B2
  go_wp2_with fail
  refine (HS.out _ T3.out).mono ?_; rintro e w2 ⟨b, rfl, hf⟩
  have F := Hd.mk (hf.base B3.out)
  clear hf
  go_wp2_with fail
  go_ret2
  exact ⟨b, rfl, F.out⟩

end Go.Proofs.Yteikihidblcljaa

/- sort.SearchInts by the shelf's contract (laid as the kit's plain mode lays it, as a template), of an ascending slice. -/
namespace Go.Proofs.Yteikihidblcljaa
open Go.Shelf Go.RowKit
def laysSI_ren : Go.Shelf.Ren := ⟨fun | 14 => 137 | 16 => 148 | 22 => 149 | n => n, fun | 0 => 0 | 3 => 3 | 4 => 4 | 28 => 57 | 35 => 133 | 38 => 149 | n => n, fun | n => n⟩
theorem laysSI : Go.Proofs.SlLaysO.n14 Try.prog laysSI_ren := {
  mixed := by kernel_rfl
  f14 := Try.func137.trans (congrArg some (by kernel_rfl))
  f16 := Try.func148.trans (congrArg some (by kernel_rfl))
  f22 := Try.func149.trans (congrArg some (by kernel_rfl))
  t0 := Try.underlying0
  a0 := Try.isAgg0
  z0 := Try.sizeOf0
  v0 := Try.zeroValue0
  t3 := Try.underlying3
  a3 := Try.isAgg3
  z3 := Try.sizeOf3
  v3 := Try.zeroValue3
  t4 := Try.underlying4
  a4 := Try.isAgg4
  z4 := Try.sizeOf4
  v4 := Try.zeroValue4
  t28 := Try.underlying57
  a28 := Try.isAgg57
  z28 := Try.sizeOf57
  v28 := Try.zeroValue57
  t35 := Try.underlying133
  a35 := Try.isAgg133
  z35 := Try.sizeOf133
  v35 := Try.zeroValue133
  t38 := Try.underlying149
  a38 := Try.isAgg149
  z38 := Try.sizeOf149
  v38 := Try.zeroValue149 }

theorem getb_toArray (X : List Int) (i : Nat) (h : i < X.length) : X.toArray[i]! = X.getD i 0 := by
  rw [getElem!_pos X.toArray i (by simpa using h)]
  simp [List.getD_eq_getElem?_getD, List.getElem?_eq_getElem h]

/-- Of an ascending slice how many elements are at most x. -/
theorem searchInts_any (a : Option Addr) (X : List Int) (c : Nat) (x : Int) (w : World) (hl : Ins w a X) (h0 : 0 < X.length) (hn : X.length ≤ 1000) (up : ∀ i, i + 1 < X.length → X.getD i 0 < X.getD (i + 1) 0) :
    Calls Try.prog 137 #[.slice a X.length c, .int .i64 x] w fun e w' => e = .returned (.int .i64 (X.countP (fun y => !decide (x ≤ y)) : Nat)) ∧ Below w.heap.size w w' := by
  obtain ⟨b, o, rfl, hc0⟩ := hl.cell 0 h0
  have hb : b < w.heap.size := World.block_lt_of_cell? _ _ hc0
  have h := Any.sort_SearchInts laysSI b o c X.toArray x w (fun i hi => by
    have hi' : i < X.length := by simpa using hi
    obtain ⟨b', o', e, hc⟩ := hl.cell i hi'
    cases e
    rw [getb_toArray X i hi']; exact hc) hb (by simp; omega) (fun i j hij hj h => by
    have hj' : j < X.length := by simpa using hj
    rw [getb_toArray X i (by omega)] at h
    rw [getb_toArray X j hj']
    have := (up_le up hij hj').1
    have h2 := of_decide_eq_true h
    exact decide_eq_true (by omega))
  have e1 : X.toArray.size = X.length := by simp
  have e2 : X.toArray.toList = X := by simp
  rw [e1, e2] at h
  exact h

end Go.Proofs.Yteikihidblcljaa

/- The walks of interp's find and Find. -/
namespace Go.Proofs.Yteikihidblcljaa
open Go.RowKit
set_option linter.unusedSimpArgs false
set_option linter.unusedVariables false

set_option maxHeartbeats 1600000 in
set_option maxRecDepth 100000 in
theorem find_out (kind : Int) (ax : Option Addr) (X : List Int) (cx : Nat) (ay : Option Addr) (Y : List Nat) (cy : Nat) (x : Int) (w : World) (ht : Tbl w ax X ay Y) (hk : TOk X Y X.length) (hx : x < X.getD 0 0 ∨ lastT X < x) :
    Calls Try.prog 121 #[.agg #[.int .i64 kind, .slice ax X.length cx, .slice ay Y.length cy], .int .i64 x] w fun e w' => e = .returned (.tuple #[.int .i64 0, .int .i64 51]) ∧ Below w.heap.size w w' := by
  have nmax := hk.max
  have npos := hk.pos
  obtain ⟨bx, ox, hax, c1⟩ := ht.ix.at 0 (by omega)
  obtain ⟨bx', ox', hax', c2⟩ := ht.ix.at (X.length - 1) (by omega)
  rw [hax] at hax'
  cases hax'
  subst hax
  unfold lastT at hx
  generalize X.getD 0 0 = x0 at *
  generalize X.getD (X.length - 1) 0 = xl at *
  generalize X.length = n at *
  generalize Y.length = m at *
  have wr1 : IntKind.i64.wrap ((n : Int) - 1) = (n : Int) - 1 := IntWalk.i64_in _ (by omega)
  have wr2 : ((n : Int) - 1).toNat = n - 1 := by omega
  have n0 : (1 : Int) ≤ n := by omega
  have n1 : (n : Int) ≤ 256 := by omega
  have n2 : 0 < n := by omega
  have n3 : (0 : Int) ≤ (n : Int) - 1 := by omega
  have n4 : (n : Int) - 1 < n := by omega
  obtain ⟨W, hW, b1, b2⟩ := box_t w kind (some ⟨bx, ox, none⟩) n cx ay m cy
  obtain ⟨y0, y1, y2⟩ := b1.cell
  have e1 : W.cell? ⟨bx, ox, none⟩ = some (.int .i64 x0) := cell_of_below b2 (Nat.le_refl _) c1
  have e2 : W.cell? ⟨bx, ox + (n - 1), none⟩ = some (.int .i64 xl) := cell_of_below b2 (Nat.le_refl _) c2
  have B2 := Hd.mk b2
  clear b1 b2 ht hk nmax npos c1 c2
  by_cases h0 : x < x0
  · have d0 := decide_eq_true h0
    clear hx
    go_enter Try.func121, Try.ntmps121
    go_upto_region 1 with fail
    clear hW
    go_wp2_with fail
    go_ret2
    exact ⟨rfl, B2.out⟩
  · have d0 := decide_eq_false h0
    have d1 : decide (x > xl) = true := by simp; omega
    clear hx h0
    go_enter Try.func121, Try.ntmps121
    go_upto_region 1 with fail
    clear hW
    go_wp2_with fail
    go_ret2
    exact ⟨rfl, B2.out⟩

set_option maxHeartbeats 1600000 in
set_option maxRecDepth 100000 in
theorem find_in (kind : Int) (ax : Option Addr) (X : List Int) (cx : Nat) (ay : Option Addr) (Y : List Nat) (cy : Nat) (x : Int) (w : World) (ht : Tbl w ax X ay Y) (hk : TOk X Y X.length) (h0 : X.getD 0 0 ≤ x) (h1 : x ≤ lastT X) :
    Calls Try.prog 121 #[.agg #[.int .i64 kind, .slice ax X.length cx, .slice ay Y.length cy], .int .i64 x] w fun e w' => e = .returned (.tuple #[.int .i64 (fndT X x : Nat), .int .i64 0]) ∧ Below w.heap.size w w' := by
  have nmax := hk.max
  have npos := hk.pos
  have hf := fnd_ok hk h0
  have HS := Hd.mk fun w1 h => searchInts_any ax X cx (x + 1) w1 h (by omega) (by omega) hk.up
  rw [hf.2.2.2] at HS
  have hlo := hk.lo 0 (by omega)
  have hhi := hk.hi (X.length - 1) (by omega)
  obtain ⟨bx, ox, hax, c1⟩ := ht.ix.at 0 (by omega)
  obtain ⟨bx', ox', hax', c2⟩ := ht.ix.at (X.length - 1) (by omega)
  rw [hax] at hax'
  cases hax'
  subst hax
  unfold lastT at h1
  generalize fndT X x = k at *
  obtain ⟨xa, hxa⟩ : ∃ xa, X.getD 0 0 = xa := ⟨_, rfl⟩
  obtain ⟨xl, hxl⟩ : ∃ xl, X.getD (X.length - 1) 0 = xl := ⟨_, rfl⟩
  obtain ⟨n, hn⟩ : ∃ n, X.length = n := ⟨_, rfl⟩
  rw [hxa] at c1 h0 hlo
  rw [hxl] at c2 h1 hhi
  rw [hn] at HS nmax npos c2 ⊢
  have hkn : k ≤ 256 := by have := hf.1; omega
  generalize Y.length = m at *
  have wr1 : IntKind.i64.wrap ((n : Int) - 1) = (n : Int) - 1 := IntWalk.i64_in _ (by omega)
  have wr2 : ((n : Int) - 1).toNat = n - 1 := by omega
  have wr3 : IntKind.i64.wrap (x + 1) = x + 1 := IntWalk.i64_in _ (by omega)
  have n0 : (1 : Int) ≤ n := by omega
  have n1 : (n : Int) ≤ 256 := by omega
  have n2 : 0 < n := by omega
  have n3 : (0 : Int) ≤ (n : Int) - 1 := by omega
  have n4 : (n : Int) - 1 < n := by omega
  have d0 : decide (x < xa) = false := by simp; omega
  have d1 : decide (x > xl) = false := by simp; omega
  have ev : Hd (((k + 1 : Nat) : Int) - 1 = (k : Int)) := ⟨by omega⟩
  obtain ⟨W, hW, b1, b2⟩ := box_t w kind (some ⟨bx, ox, none⟩) n cx ay m cy
  obtain ⟨y0, y1, y2⟩ := b1.cell
  have e1 : W.cell? ⟨bx, ox, none⟩ = some (.int .i64 xa) := cell_of_below b2 (Nat.le_refl _) c1
  have e2 : W.cell? ⟨bx, ox + (n - 1), none⟩ = some (.int .i64 xl) := cell_of_below b2 (Nat.le_refl _) c2
  have B2 := Hd.mk b2
  have T := Hd.mk (ht.ix.belowK b2)
  have HX := Hd.mk (And.intro hlo hhi)
  have HX2 := Hd.mk (And.intro h0 h1)
  clear b1 b2 ht hk nmax npos c1 c2 hf hxa hxl hn hlo hhi h0 h1
  go_enter Try.func121, Try.ntmps121
  go_upto_region 1 with fail
  clear hW
  go_wp2_with fail
  refine (HS.out _ T.out).mono ?_; rintro e w1 ⟨rfl, hb⟩
  have B3 := Hd.mk (B2.out.trans (hb.mono B2.out.size))
  clear hb
  go_wp2_with fail
  go_ret2
  exact ⟨rfl, B3.out⟩

/-- What Find tells. -/
def fdT (kind : Int) (X : List Int) (Y : List Nat) (x : Int) : Int × Int :=
  if chkT kind X Y = 0 then (if x < X.getD 0 0 ∨ lastT X < x then (0, 51) else ((fndT X x : Int), 0)) else (0, chkT kind X Y)

set_option maxHeartbeats 1600000 in
set_option maxRecDepth 100000 in
theorem findX_any (kind : Int) (ax : Option Addr) (X : List Int) (cx : Nat) (ay : Option Addr) (Y : List Nat) (cy : Nat) (x : Int) (w : World) (ht : Tbl w ax X ay Y) :
    Calls Try.prog 83 #[.agg #[.int .i64 kind, .slice ax X.length cx, .slice ay Y.length cy], .int .i64 x] w fun e w' => e = .returned (.tuple #[.int .i64 (fdT kind X Y x).1, .int .i64 (fdT kind X Y x).2]) ∧ Below w.heap.size w w' := by
  have HCk := Hd.mk fun w1 h => check_any kind ax X cx ay Y cy w1 h
  by_cases hc : chkT kind X Y = 0
  · have ok := (chk_ok hc ht.fy.wf).1
    have HF : Hd (∀ w1, Tbl w1 ax X ay Y → Calls Try.prog 121 #[.agg #[.int .i64 kind, .slice ax X.length cx, .slice ay Y.length cy], .int .i64 x] w1 fun e w' => e = .returned (.tuple #[.int .i64 (fdT kind X Y x).1, .int .i64 (fdT kind X Y x).2]) ∧ Below w1.heap.size w1 w') := ⟨fun w1 h => by
      unfold fdT
      rw [if_pos hc]
      by_cases hx : x < X.getD 0 0 ∨ lastT X < x
      · rw [if_pos hx]; exact find_out kind ax X cx ay Y cy x w1 h ok hx
      · rw [if_neg hx]; exact find_in kind ax X cx ay Y cy x w1 h ok (by omega) (by omega)⟩
    rw [hc] at HCk
    generalize fdT kind X Y x = R at *
    obtain ⟨R1, R2⟩ := R
    dsimp only at HF ⊢
    generalize X.length = n at *
    generalize Y.length = m at *
    obtain ⟨W, hW, b1, b2⟩ := box_t w kind ax n cx ay m cy
    obtain ⟨y0, y1, y2⟩ := b1.cell
    have B1 := Hd.mk b1
    have B2 := Hd.mk b2
    have T := Hd.mk (ht.belowK b2)
    clear b1 b2 ht hc ok
    go_enter Try.func83, Try.ntmps83
    go_upto_region 1 with fail
    clear hW
    go_wp2_with fail
    refine (HCk.out _ T.out).mono ?_; rintro e w1 ⟨rfl, hb⟩
    obtain ⟨z0, z1, z2⟩ := (B1.out.below hb).cell
    have B3 := Hd.mk (B2.out.trans (hb.mono B2.out.size))
    have T3 := Hd.mk (T.out.belowK hb)
    clear hb y0 y1 y2
    go_wp2_with fail
    refine (HF.out _ T3.out).mono ?_; rintro e w2 ⟨rfl, hb⟩
    have B4 := Hd.mk (B3.out.trans (hb.mono B3.out.size))
    clear hb
    go_wp2_with fail
    go_ret2
    exact ⟨rfl, B4.out⟩
  · have hr : fdT kind X Y x = (0, chkT kind X Y) := by unfold fdT; rw [if_neg hc]
    rw [hr]
    have d1 : (chkT kind X Y != 0) = true := by rw [bne_iff_ne]; exact hc
    dsimp only
    generalize chkT kind X Y = E at *
    generalize X.length = n at *
    generalize Y.length = m at *
    obtain ⟨W, hW, b1, b2⟩ := box_t w kind ax n cx ay m cy
    obtain ⟨y0, y1, y2⟩ := b1.cell
    have B2 := Hd.mk b2
    have T := Hd.mk (ht.belowK b2)
    clear b1 b2 ht hc hr
    go_enter Try.func83, Try.ntmps83
    go_upto_region 1 with fail
    clear hW
    go_wp2_with fail
    refine (HCk.out _ T.out).mono ?_; rintro e w1 ⟨rfl, hb⟩
    have B3 := Hd.mk (B2.out.trans (hb.mono B2.out.size))
    clear hb
    go_wp2_with fail
    go_ret2
    exact ⟨rfl, B3.out⟩

end Go.Proofs.Yteikihidblcljaa

/- The walks of interp's flat, linear and cubic. -/
namespace Go.Proofs.Yteikihidblcljaa
open Go.RowKit
set_option linter.unusedSimpArgs false
set_option linter.unusedVariables false

/-- Whole numbers in a new block. -/
theorem ins_new (w : World) (l : List Int) (t : TypeId) (hb : ∀ k, -9223372036854775808 ≤ l.getD k 0 ∧ l.getD k 0 ≤ 9223372036854775807) (hl : l.length ≤ 1000) : Ins (w.alloc (.cells (l.map (Value.int .i64)).toArray t)) (some ⟨w.heap.size, 0, none⟩) l where
  cell := fun k hk => ⟨w.heap.size, 0, rfl, by
    have := World.rowIs_alloc w (l.map (Value.int .i64)).toArray t (fun i => .int .i64 (l.getD i 0)) (fun i hi => by
      simp at hi
      simp [List.getD_eq_getElem?_getD, List.getElem?_eq_getElem hi])
    have h := this.cell (i := k) (by simpa using hk)
    rw [Nat.zero_add]; exact h⟩
  wf := hb
  len := by omega
/-- Floats in a new block. -/
theorem fls_new (w : World) (l : List Nat) (t : TypeId) (hb : ∀ k, F64 (l.getD k 0)) (hl : l.length ≤ 1000) : Fls (w.alloc (.cells (l.map (Value.float .f64)).toArray t)) (some ⟨w.heap.size, 0, none⟩) l where
  nil := fun e => by cases e
  cell := fun b o v e k hk => by
    cases e
    have := World.rowIs_alloc w (l.map (Value.float .f64)).toArray t (fun i => .float .f64 (l.getD i 0)) (fun i hi => by
      simp at hi
      simp [List.getD_eq_getElem?_getD, List.getElem?_eq_getElem hi])
    have h := this.cell (i := k) (by simpa using hk)
    exact ⟨rfl, by rw [Nat.zero_add]; exact h⟩
  wf := hb
  len := by omega
theorem getD_ins {P : Int → Prop} {l : List Int} (h : ∀ x ∈ l, P x) (h0 : P 0) (k : Nat) : P (l.getD k 0) := by
  by_cases hk : k < l.length
  · rw [List.getD_eq_getElem?_getD, List.getElem?_eq_getElem hk]; exact h _ (List.getElem_mem hk)
  · rw [List.getD_eq_getElem?_getD, List.getElem?_eq_none (by omega)]; exact h0
theorem getD_nat {P : Nat → Prop} {l : List Nat} (h : ∀ x ∈ l, P x) (h0 : P 0) (k : Nat) : P (l.getD k 0) := by
  by_cases hk : k < l.length
  · rw [List.getD_eq_getElem?_getD, List.getElem?_eq_getElem hk]; exact h _ (List.getElem_mem hk)
  · rw [List.getD_eq_getElem?_getD, List.getElem?_eq_none (by omega)]; exact h0
theorem zD_acc (l : List Int) (m : List Nat) (hl : l.length ≤ 1000) (hm : ∀ k, F64 (m.getD k 0)) : AccB (zD (l.map FI) m) :=
  (zD_bd (l.map FI) m (fun i => getD_nat (fun x hx => by obtain ⟨y, _, rfl⟩ := List.mem_map.1 hx; exact F64_FI y) ⟨by decide⟩ i) hm).accB (Nat.le_trans (by rw [List.length_map]; exact hl) (Nat.le_of_lt (Nat.lt_of_lt_of_le (show 1000 < 2 ^ 10 by decide) (Nat.pow_le_pow_right (by decide) (by decide)))))

set_option maxHeartbeats 800000 in
theorem flat_any (kind : Int) (ax : Option Addr) (nx cx : Nat) (ay : Option Addr) (Y : List Nat) (cy : Nat) (k : Nat) (i h : Int) (w : World) (hy : Fls w ay Y) (hk : k < Y.length) :
    Calls Try.prog 86 #[.agg #[.int .i64 kind, .slice ax nx cx, .slice ay Y.length cy], .int .i64 k, .int .i64 i, .int .i64 h] w fun e w' => e = .returned (.float .f64 (Y.getD k 0)) ∧ Below w.heap.size w w' := by
  obtain ⟨b, o, rfl, c⟩ := hy.at k hk
  have ly := hy.len
  generalize Y.getD k 0 = y at *
  generalize Y.length = m at *
  have k0 : (0 : Int) ≤ k := by omega
  have k1 : (k : Int) < m := by omega
  obtain ⟨W, hW, b1, b2⟩ := box_t w kind ax nx cx (some ⟨b, o, none⟩) m cy
  obtain ⟨y0, y1, y2⟩ := b1.cell
  have e1 : W.cell? ⟨b, o + k, none⟩ = some (.float .f64 y) := cell_of_below b2 (Nat.le_refl _) c
  have B2 := Hd.mk b2
  clear b1 b2 hy c hk
  go_enter Try.func86, Try.ntmps86
  go_upto_region 1 with fail
  clear hW
  go_wp2_with fail
  go_ret
  exact ⟨rfl, B2.out⟩

theorem BoxT.alloc {w : World} {b : Nat} {kind : Int} {ax : Option Addr} {nx cx : Nat} {ay : Option Addr} {ny cy : Nat} (h : BoxT w b kind ax nx cx ay ny cy) (o : Obj) : BoxT (w.alloc o) b kind ax nx cx ay ny cy := h.below ((Below.refl _ _).alloc (Nat.le_refl _) o)
/-- Two neighbours of a slice of floats. -/
theorem Fls.two {w : World} {b o : Nat} {l : List Nat} (h : Fls w (Option.some ⟨b, o, none⟩) l) (k : Nat) (hk : k + 1 < l.length) : Fls w (Option.some ⟨b, o + k, none⟩) [l.getD k 0, l.getD (k + 1) 0] := by
  have h1 := (h.dropK k (by omega)).takeK 2 (by rw [List.length_drop]; omega)
  have e : (l.drop k).take 2 = [l.getD k 0, l.getD (k + 1) 0] := by
    rw [List.drop_eq_getElem_cons (by omega : k < l.length), List.drop_eq_getElem_cons (by omega : k + 1 < l.length)]
    show [l[k]'(by omega), l[k + 1]'hk] = _
    simp only [List.getD_eq_getElem?_getD, List.getElem?_eq_getElem hk, List.getElem?_eq_getElem (show k < l.length by omega), Option.getD_some]
  rw [e] at h1
  exact h1

set_option maxHeartbeats 1600000 in
set_option maxRecDepth 100000 in
theorem linear_any (kind : Int) (ax : Option Addr) (nx cx : Nat) (ay : Option Addr) (Y : List Nat) (cy : Nat) (k : Nat) (i h : Int) (w : World) (hy : Fls w ay Y) (hr : Room ay Y.length cy) (hk : k + 1 < Y.length) (h0 : 0 ≤ i) (h1 : i ≤ h) (h2 : 1 ≤ h) (h3 : h ≤ 109572) :
    Calls Try.prog 87 #[.agg #[.int .i64 kind, .slice ax nx cx, .slice ay Y.length cy], .int .i64 k, .int .i64 i, .int .i64 h] w fun e w' => e = .returned (.float .f64 (wsT h.toNat [h - i, i] [Y.getD k 0, Y.getD (k + 1) 0])) ∧ Below w.heap.size w w' := by
  obtain ⟨b, o, hay, c⟩ := hy.at k (by omega)
  subst hay
  have F2 := Hd.mk (hy.two k hk)
  have wf2 : ∀ j, F64 ([Y.getD k 0, Y.getD (k + 1) 0].getD j 0) := F2.out.wf
  have HO : Hd (∀ (w1 : World) a c c', Ins w1 a [h - i, i] → Fls w1 (some ⟨b, o + k, none⟩) [Y.getD k 0, Y.getD (k + 1) 0] → Calls Try.prog 124 #[.int .i64 h, .slice a 2 c, .slice (some ⟨b, o + k, none⟩) 2 c'] w1 fun e w' => e = .returned (.float .f64 (wsT h.toNat [h - i, i] [Y.getD k 0, Y.getD (k + 1) 0])) ∧ Below w1.heap.size w1 w') := ⟨fun w1 a c c' hi hf => by
    have := over10_any h.toNat (by omega) (by omega) a [h - i, i] c _ _ c' w1 hi hf rfl (zD_acc _ _ (by simp) wf2)
    rw [show ((h.toNat : Nat) : Int) = h by omega] at this
    exact this⟩
  have HI := Hd.mk fun w1 => ins_new w1 [h - i, i] 3 (getD_ins (P := fun x => -9223372036854775808 ≤ x ∧ x ≤ 9223372036854775807) (fun x hx => by simp at hx; omega) (by decide)) (by simp)
  have rle := hr.le
  have rmx := hr.max
  generalize wsT h.toNat [h - i, i] [Y.getD k 0, Y.getD (k + 1) 0] = R at *
  obtain ⟨L, hL⟩ : ∃ L, [Y.getD k 0, Y.getD (k + 1) 0] = L := ⟨_, rfl⟩
  rw [hL] at F2 HO
  generalize Y.length = m at *
  have k0 : (0 : Int) ≤ k := by omega
  have k1 : (k : Int) + 2 ≤ cy := by omega
  have k2 : k + 2 ≤ cy := by omega
  have k3 : (k : Int) ≤ (k : Int) + 2 := by omega
  have k4 : ((k : Int) + 2).toNat = k + 2 := by omega
  have k5 : ¬ cy = k := by omega
  have k6 : (0 : Int) ≤ (k : Int) + 2 := by omega
  obtain ⟨W, hW, b1, b2⟩ := box_t w kind ax nx cx (some ⟨b, o, none⟩) m cy
  obtain ⟨y0, y1, y2⟩ := b1.cell
  have B2 := Hd.mk b2
  have F3 := Hd.mk (F2.out.belowK b2)
  have y3 := fun o => (b1.alloc o).cell.2.2
  clear b1 b2 hy c hk wf2 hr hL F2
  go_enter Try.func87, Try.ntmps87
  go_upto_region 1 with fail
  clear hW
  go_wp2_with fail
  refine (HO.out _ _ _ _ (HI.out W) (F3.out.belowK ((Below.refl _ _).alloc (Nat.le_refl _) _))).mono ?_; rintro e w1 ⟨rfl, hb⟩
  have B3 : Hd (Below w.heap.size w w1) := ⟨(B2.out.alloc B2.out.size _).trans (hb.mono (Nat.le_trans B2.out.size (World.alloc_size_le _ _)))⟩
  clear hb
  go_wp2_with fail
  go_ret
  exact ⟨rfl, B3.out⟩

set_option maxHeartbeats 3200000 in
set_option maxRecDepth 100000 in
theorem cubic_any (kind : Int) (ax : Option Addr) (X : List Int) (cx : Nat) (ay : Option Addr) (Y : List Nat) (cy : Nat) (n : Nat) (k : Nat) (i h : Int) (w : World) (ht : Tbl w ax X ay Y) (hk : TOk X Y n) (hkn : k + 1 < n) (h0 : 0 ≤ i) (h1 : i ≤ h) (h2 : 1 ≤ h) (h3 : h ≤ 109572) :
    Calls Try.prog 88 #[.agg #[.int .i64 kind, .slice ax n cx, .slice ay n cy], .int .i64 k, .int .i64 i, .int .i64 h] w fun e w' => e = .returned (.float .f64 (wsT (h * h * h).toNat (cwT (h - i) i) (ptT X Y n k))) ∧ Below w.heap.size w w' := by
  have HPo := Hd.mk fun w1 (h : Tbl w1 ax X ay Y) => points_any kind ax X cx ay Y cy n w1 h hk k hkn
  have hp : 0 < h * h * h := Int.mul_pos (Int.mul_pos (by omega) (by omega)) (by omega)
  obtain ⟨q1, q2, q3, q4⟩ := cube_bd (show 0 ≤ h by omega) (Int.le_refl h) h3
  have wfp : ∀ j, F64 ((ptT X Y n k).getD j 0) := fun j => F64_ptF hk j
  have HO : Hd (∀ (w1 : World) a c b c', Ins w1 a (cwT (h - i) i) → Fls w1 (some ⟨b, 0, none⟩) (ptT X Y n k) → Calls Try.prog 124 #[.int .i64 (h * h * h), .slice a 4 c, .slice (some ⟨b, 0, none⟩) 4 c'] w1 fun e w' => e = .returned (.float .f64 (wsT (h * h * h).toNat (cwT (h - i) i) (ptT X Y n k))) ∧ Below w1.heap.size w1 w') := ⟨fun w1 a c b c' hi hf => by
    have := over10_any (h * h * h).toNat (by omega) (by omega) a (cwT (h - i) i) c _ _ c' w1 hi hf rfl (zD_acc _ _ (by simp [cwT]) wfp)
    rw [show (((h * h * h).toNat : Nat) : Int) = h * h * h by omega] at this
    exact this⟩
  obtain ⟨j, hj⟩ : ∃ j, h - i = j := ⟨_, rfl⟩
  rw [hj] at HO ⊢
  have j0 : 0 ≤ j := by omega
  have j1 : j ≤ 109572 := by omega
  have i1 : i ≤ 109572 := by omega
  obtain ⟨p1, p2, p3, p4⟩ := cube_bd j0 (Int.le_refl j) j1
  obtain ⟨r1, r2, r3, r4⟩ := cube_bd h0 (Int.le_refl i) i1
  obtain ⟨s1, s2, s3, s4⟩ := mix_bd h0 i1 j0 j1
  have t1 : 0 ≤ 3 * j * j ∧ 3 * j * j ≤ 36018069552 := by rw [Int.mul_assoc]; omega
  have t2 : 0 ≤ 3 * j * i ∧ 3 * j * i ≤ 36018069552 := by
    have a : 0 ≤ j * i := Int.mul_nonneg j0 h0
    have b : j * i ≤ 109572 * 109572 := Int.mul_le_mul j1 i1 h0 (by decide)
    rw [Int.mul_assoc]; omega
  have HI := Hd.mk fun w1 => ins_new w1 (cwT j i) 3 (getD_ins (P := fun x => -9223372036854775808 ≤ x ∧ x ≤ 9223372036854775807) (fun x hx => by simp [cwT] at hx; omega) (by decide)) (by simp [cwT])
  rw [show ((cwT j i).map (Value.int .i64)).toArray = #[.int .i64 (j * j * j), .int .i64 (3 * j * j * i), .int .i64 (3 * j * i * i), .int .i64 (i * i * i)] from rfl] at HI
  have w1 : IntKind.i64.wrap (h - i) = j := by rw [hj]; exact IntWalk.i64_in _ (by omega)
  have w2 : IntKind.i64.wrap (h * h) = h * h := IntWalk.i64_in _ (by omega)
  have w3 : IntKind.i64.wrap (h * h * h) = h * h * h := IntWalk.i64_in _ (by omega)
  have w4 : IntKind.i64.wrap (j * j) = j * j := IntWalk.i64_in _ (by omega)
  have w5 : IntKind.i64.wrap (j * j * j) = j * j * j := IntWalk.i64_in _ (by omega)
  have w6 : IntKind.i64.wrap (3 * j) = 3 * j := IntWalk.i64_in _ (by omega)
  have w7 : IntKind.i64.wrap (3 * j * j) = 3 * j * j := IntWalk.i64_in _ (by omega)
  have w8 : IntKind.i64.wrap (3 * j * j * i) = 3 * j * j * i := IntWalk.i64_in _ (by omega)
  have w9 : IntKind.i64.wrap (3 * j * i) = 3 * j * i := IntWalk.i64_in _ (by omega)
  have w10 : IntKind.i64.wrap (3 * j * i * i) = 3 * j * i * i := IntWalk.i64_in _ (by omega)
  have w11 : IntKind.i64.wrap (i * i) = i * i := IntWalk.i64_in _ (by omega)
  have w12 : IntKind.i64.wrap (i * i * i) = i * i * i := IntWalk.i64_in _ (by omega)
  generalize wsT (h * h * h).toNat (cwT j i) (ptT X Y n k) = R at *
  obtain ⟨cw, hcw⟩ : ∃ cw, cwT j i = cw := ⟨_, rfl⟩
  rw [hcw] at HO HI
  have HFl : Hd (∀ (w1 w2 : World) (b : Nat), FilledF w1 w2 b 4 (ptF X Y n k) → Fls w2 (some ⟨b, 0, none⟩) (ptT X Y n k)) := ⟨fun w1 w2 b hf => by
    have := hf.fls (by decide)
    rwa [rowL_ptF] at this⟩
  generalize ptT X Y n k = pt at *
  generalize ptF X Y n k = pf at *
  obtain ⟨W, hW, b1, b2⟩ := box_t w kind ax n cx ay n cy
  have B1 := Hd.mk b1
  have y1 := fun o => (b1.alloc o).cell.1
  have y2 := fun o => (b1.alloc o).cell.2.1
  have y3 := fun o => (b1.alloc o).cell.2.2
  have B2 := Hd.mk b2
  have T := Hd.mk (ht.belowK b2)
  clear b1 b2 ht hk hkn hj wfp hcw
  go_enter Try.func88, Try.ntmps88
  go_upto_region 1 with fail
  clear hW
  go_wp2_with fail
  have HI0 := Hd.mk (HI.out W)
  have T1 := Hd.mk (T.out.belowK ((Below.refl _ _).alloc (Nat.le_refl _) (.cells #[.int .i64 (j * j * j), .int .i64 (3 * j * j * i), .int .i64 (3 * j * i * i), .int .i64 (i * i * i)] 3)))
  have B3 := Hd.mk (B2.out.alloc B2.out.size (.cells #[.int .i64 (j * j * j), .int .i64 (3 * j * j * i), .int .i64 (3 * j * i * i), .int .i64 (i * i * i)] 3))
  refine (HPo.out _ T1.out).mono ?_; rintro e w13 ⟨b, rfl, hf⟩
  have FP := Hd.mk (HFl.out _ _ _ hf)
  have B4 := Hd.mk (B3.out.trans (hf.below.mono B3.out.size))
  have HI1 := Hd.mk (HI0.out.belowK hf.below)
  clear hf
  go_wp2_with fail
  refine (HO.out _ _ _ _ _ HI1.out FP.out).mono ?_; rintro e w14 ⟨rfl, hb⟩
  have B5 := Hd.mk (B4.out.trans (hb.mono B4.out.size))
  clear hb
  go_wp2_with fail
  go_ret
  exact ⟨rfl, B5.out⟩

set_option maxHeartbeats 3200000 in
set_option maxRecDepth 100000 in
theorem logs_any (kind : Int) (ax : Option Addr) (nx cx : Nat) (ay : Option Addr) (Y : List Nat) (cy : Nat) (k : Nat) (i h : Int) (w : World) (hy : Fls w ay Y) (hk : k + 1 < Y.length) (h0 : 0 ≤ i) (h1 : i ≤ h) (h2 : 1 ≤ h) (h3 : h ≤ 109572)
    (fa : fin (Y.getD k 0) = true) (fb : fin (Y.getD (k + 1) 0) = true) (pa : 0 < rk (Y.getD k 0)) (pb : 0 < rk (Y.getD (k + 1) 0)) :
    Calls Try.prog 89 #[.agg #[.int .i64 kind, .slice ax nx cx, .slice ay Y.length cy], .int .i64 k, .int .i64 i, .int .i64 h] w fun e w' => e = .returned (.float .f64 (hld (fexp (wsT h.toNat [h - i, i] [fln (Y.getD k 0), fln (Y.getD (k + 1) 0)])) (Y.getD k 0) (Y.getD (k + 1) 0))) ∧ Below w.heap.size w w' := by
  have wfa := hy.wf k
  have wfb := hy.wf (k + 1)
  have na := nn_fin _ fa
  have nb := nn_fin _ fb
  have ga := fln_fin _ wfa fa pa
  have gb := fln_fin _ wfb fb pb
  have gaw : F64 (fln (Y.getD k 0)) := F64_fln _ wfa
  have gbw : F64 (fln (Y.getD (k + 1) 0)) := F64_fln _ wfb
  obtain ⟨lo', hi', fl', fh', rl', rh'⟩ := min_max ga gb
  have nw := (ws_two (lo := lo') (hi := hi') h0 h1 h2 h3 ga gb fl' fh' (by omega) (by omega) (by omega) (by omega)).1
  have ne := (fexp_pos _ (F64_wsT _ _ _) nw).1
  have HLa : Hd (∀ w, Calls Try.prog 125 #[.float .f64 (Y.getD k 0)] w fun e w' => e = .returned (.float .f64 (fln (Y.getD k 0))) ∧ Below w.heap.size w w') := ⟨fun w => (ln_any _ wfa w).mono fun e w' h => by
    obtain ⟨r, rfl, h1, h2, h3⟩ := h
    rw [cn_of _ na] at h2
    rw [raw_of_cn h2 (nn_fin _ ga)]; exact ⟨rfl, h3⟩⟩
  have HLb : Hd (∀ w, Calls Try.prog 125 #[.float .f64 (Y.getD (k + 1) 0)] w fun e w' => e = .returned (.float .f64 (fln (Y.getD (k + 1) 0))) ∧ Below w.heap.size w w') := ⟨fun w => (ln_any _ wfb w).mono fun e w' h => by
    obtain ⟨r, rfl, h1, h2, h3⟩ := h
    rw [cn_of _ nb] at h2
    rw [raw_of_cn h2 (nn_fin _ gb)]; exact ⟨rfl, h3⟩⟩
  have HE : Hd (∀ w, Calls Try.prog 127 #[.float .f64 (wsT h.toNat [h - i, i] [fln (Y.getD k 0), fln (Y.getD (k + 1) 0)])] w fun e w' => e = .returned (.float .f64 (fexp (wsT h.toNat [h - i, i] [fln (Y.getD k 0), fln (Y.getD (k + 1) 0)]))) ∧ Below w.heap.size w w') := ⟨fun w => (exp_any _ (F64_wsT _ _ _) w).mono fun e w' h => by
    obtain ⟨r, rfl, h1, h2, h3⟩ := h
    rw [cn_of _ nw] at h2
    rw [raw_of_cn h2 ne]; exact ⟨rfl, h3⟩⟩
  have HH := Hd.mk fun w => held_any (fexp (wsT h.toNat [h - i, i] [fln (Y.getD k 0), fln (Y.getD (k + 1) 0)])) _ _ (F64_fexp _) wfa wfb na nb w
  have wf2 : ∀ j, F64 ([fln (Y.getD k 0), fln (Y.getD (k + 1) 0)].getD j 0) := getD_nat (fun x hx => by simp at hx; rcases hx with rfl | rfl; exact gaw; exact gbw) ⟨by decide⟩
  have HO : Hd (∀ (w1 : World) a c a' c', Ins w1 a [h - i, i] → Fls w1 a' [fln (Y.getD k 0), fln (Y.getD (k + 1) 0)] → Calls Try.prog 124 #[.int .i64 h, .slice a 2 c, .slice a' 2 c'] w1 fun e w' => e = .returned (.float .f64 (wsT h.toNat [h - i, i] [fln (Y.getD k 0), fln (Y.getD (k + 1) 0)])) ∧ Below w1.heap.size w1 w') := ⟨fun w1 a c a' c' hi hf => by
    have := over10_any h.toNat (by omega) (by omega) a [h - i, i] c a' _ c' w1 hi hf rfl (zD_acc _ _ (by simp) wf2)
    rw [show ((h.toNat : Nat) : Int) = h by omega] at this
    exact this⟩
  have HI := Hd.mk fun w1 => ins_new w1 [h - i, i] 3 (getD_ins (P := fun x => -9223372036854775808 ≤ x ∧ x ≤ 9223372036854775807) (fun x hx => by simp at hx; omega) (by decide)) (by simp)
  rw [show ([h - i, i].map (Value.int .i64)).toArray = #[.int .i64 (h - i), .int .i64 i] from rfl] at HI
  have HF := Hd.mk fun w1 => fls_new w1 [fln (Y.getD k 0), fln (Y.getD (k + 1) 0)] 28 wf2 (by simp)
  rw [show ([fln (Y.getD k 0), fln (Y.getD (k + 1) 0)].map (Value.float .f64)).toArray = #[.float .f64 (fln (Y.getD k 0)), .float .f64 (fln (Y.getD (k + 1) 0))] from rfl] at HF
  obtain ⟨b, o, hay, c1⟩ := hy.at k (by omega)
  obtain ⟨b', o', hay', c2⟩ := hy.at (k + 1) hk
  rw [hay] at hay'
  cases hay'
  subst hay
  have ly := hy.len
  generalize hld (fexp (wsT h.toNat [h - i, i] [fln (Y.getD k 0), fln (Y.getD (k + 1) 0)])) (Y.getD k 0) (Y.getD (k + 1) 0) = R at *
  generalize fexp (wsT h.toNat [h - i, i] [fln (Y.getD k 0), fln (Y.getD (k + 1) 0)]) = E at *
  generalize wsT h.toNat [h - i, i] [fln (Y.getD k 0), fln (Y.getD (k + 1) 0)] = S at *
  generalize fln (Y.getD k 0) = la at *
  generalize fln (Y.getD (k + 1) 0) = lb at *
  generalize Y.getD k 0 = ya at *
  generalize Y.getD (k + 1) 0 = yb at *
  generalize Y.length = m at *
  obtain ⟨W, hW, b1, b2⟩ := box_t w kind ax nx cx (some ⟨b, o, none⟩) m cy
  have e1 : W.cell? ⟨b, o + k, none⟩ = some (.float .f64 ya) := cell_of_below b2 (Nat.le_refl _) c1
  have e2 : W.cell? ⟨b, o + (k + 1), none⟩ = some (.float .f64 yb) := cell_of_below b2 (Nat.le_refl _) c2
  have B1 := Hd.mk b1
  have B2 := Hd.mk b2
  have y2 : W.cell? ⟨w.heap.size, 2, none⟩ = _ := b1.cell.2.2
  have k0 : (0 : Int) ≤ k := by omega
  have k1 : (k : Int) + 1 < m := by omega
  have k2 : (k : Int) < m := by omega
  have k4 : (0 : Int) ≤ (k : Int) + 1 := by omega
  have wr1 : IntKind.i64.wrap ((k : Int) + 1) = (k : Int) + 1 := IntWalk.i64_in _ (by omega)
  have wr2 : ((k : Int) + 1).toNat = k + 1 := by omega
  have wr3 : IntKind.i64.wrap (h - i) = h - i := IntWalk.i64_in _ (by omega)
  have HC1 : Hd (∀ w1, Below W.heap.size W w1 → w1.cell? ⟨b, o + k, none⟩ = some (.float .f64 ya) ∧ w1.cell? ⟨b, o + (k + 1), none⟩ = some (.float .f64 yb) ∧ w1.cell? ⟨w.heap.size, 2, none⟩ = some (.slice (some ⟨b, o, none⟩) m cy)) := ⟨fun w1 hb => ⟨cell_of_below hb (Nat.le_refl _) e1, cell_of_below hb (Nat.le_refl _) e2, (B1.out.below hb).cell.2.2⟩⟩
  clear b1 b2 hy c1 c2 hk fa fb pa pb wfa wfb na nb ga gb gaw gbw fl' fh' rl' rh' nw ne wf2
  go_enter Try.func89, Try.ntmps89
  go_upto_region 1 with fail
  clear hW
  go_wp2_with fail
  have f1 : W.drew.cell? ⟨b, o + k, none⟩ = some (.float .f64 ya) := e1
  have f2 : W.drew.cell? ⟨b, o + (k + 1), none⟩ = some (.float .f64 yb) := e2
  have f3 : W.drew.cell? ⟨w.heap.size, 2, none⟩ = some (.slice (some ⟨b, o, none⟩) m cy) := y2
  have BD : Hd (Below W.heap.size W W.drew) := ⟨(Below.refl _ _).drew⟩
  go_region_held3 (fun w' => w'.cell? ⟨b, o + k, none⟩ = some (.float .f64 ya) ∧ w'.cell? ⟨b, o + (k + 1), none⟩ = some (.float .f64 yb) ∧ w'.cell? ⟨w.heap.size, 2, none⟩ = some (.slice (some ⟨b, o, none⟩) m cy)) (first | with_reducible exact ⟨f1, f2, f3⟩ | with_reducible exact ⟨d0, d1, d2⟩ | with_reducible exact ⟨g0, g1, g2⟩ | with_reducible exact ⟨m0, m1, m2⟩ | (refine ⟨?_, ?_, ?_⟩ <;> go_simp)) (
    first
    | (
    go_at_call 125
    refine (HLb.out w3).mono ?_
    rintro en w4 ⟨rfl, hb4⟩
    have B4 := Hd.mk (B3.out.trans (hb4.mono B3.out.size))
    obtain ⟨g0, g1, g2⟩ := HC1.out _ B4.out
    have B5 := Hd.mk (B4.out.alloc B4.out.size (.cells #[.float .f64 la, .float .f64 lb] 28))
    obtain ⟨m0, m1, m2⟩ := HC1.out _ B5.out
    clear hb4)
    | (
    go_at_call 125
    refine (HLa.out W.drew).mono ?_
    rintro en w3 ⟨rfl, hb3⟩
    have B3 := Hd.mk (BD.out.trans hb3)
    obtain ⟨d0, d1, d2⟩ := HC1.out _ B3.out
    clear hb3))
  have FL := Hd.mk (HF.out w4)
  clear f1 f2 f3 d0 d1 d2 g0 g1 g2 B3 B4 BD
  generalize w4.alloc (.cells #[.float .f64 la, .float .f64 lb] 28) = w5 at *
  generalize w4.heap.size = bl at *
  go_wp2_with fail
  have f1 : w5.drew.cell? ⟨b, o + k, none⟩ = some (.float .f64 ya) := m0
  have f2 : w5.drew.cell? ⟨b, o + (k + 1), none⟩ = some (.float .f64 yb) := m1
  have f3 : w5.drew.cell? ⟨w.heap.size, 2, none⟩ = some (.slice (some ⟨b, o, none⟩) m cy) := m2
  have B6 := Hd.mk (B5.out.alloc B5.out.size (.cells #[.int .i64 (h - i), .int .i64 i] 3)).drew
  obtain ⟨p0, p1, p2⟩ := HC1.out _ B6.out
  have FL6 := Hd.mk (FL.out.belowK ((Below.refl _ w5).alloc (Nat.le_refl _) (.cells #[.int .i64 (h - i), .int .i64 i] 3)).drew)
  have HI6 : Hd (Ins (w5.alloc (.cells #[.int .i64 (h - i), .int .i64 i] 3)).drew _ _) := ⟨(HI.out w5).heap rfl⟩
  go_region_held3 (fun w' => w'.cell? ⟨b, o + k, none⟩ = some (.float .f64 ya) ∧ w'.cell? ⟨b, o + (k + 1), none⟩ = some (.float .f64 yb) ∧ w'.cell? ⟨w.heap.size, 2, none⟩ = some (.slice (some ⟨b, o, none⟩) m cy)) (first | with_reducible exact ⟨f1, f2, f3⟩ | with_reducible exact ⟨p0, p1, p2⟩ | with_reducible exact ⟨d0, d1, d2⟩ | with_reducible exact ⟨g0, g1, g2⟩ | (refine ⟨?_, ?_, ?_⟩ <;> go_simp)) (
    first
    | (
    go_at_call 124
    refine (HO.out _ _ _ _ _ HI6.out FL6.out).mono ?_
    rintro en w7 ⟨rfl, hb7⟩
    have B7 := Hd.mk (B6.out.trans (hb7.mono B6.out.size))
    obtain ⟨d0, d1, d2⟩ := HC1.out _ B7.out
    clear hb7)
    | (
    go_at_call 127
    refine (HE.out _).mono ?_
    rintro en w8 ⟨rfl, hb8⟩
    have B8 := Hd.mk (B7.out.trans (hb8.mono B7.out.size))
    obtain ⟨g0, g1, g2⟩ := HC1.out _ B8.out
    clear hb8)
    | (
    go_at_call 126
    refine (HH.out _).mono ?_
    rintro en w9 ⟨rfl, rfl⟩))
  go_wp2_with fail
  go_ret
  exact ⟨rfl, B2.out.trans (B8.out.mono B2.out.size)⟩

end Go.Proofs.Yteikihidblcljaa

/- The walk of interp.At. -/
namespace Go.Proofs.Yteikihidblcljaa
open Go.RowKit
set_option linter.unusedSimpArgs false
set_option linter.unusedVariables false

def AtRet (v : Nat × Int) (w : World) (e : Ending) (w' : World) : Prop := e = .returned (.tuple #[.float .f64 v.1, .int .i64 v.2]) ∧ Below w.heap.size w w'

set_option maxHeartbeats 1600000 in
set_option maxRecDepth 100000 in
/-- No place. -/
theorem at_bad (kind : Int) (ax : Option Addr) (X : List Int) (cx : Nat) (ay : Option Addr) (Y : List Nat) (cy : Nat) (x : Int) (w : World) (ht : Tbl w ax X ay Y) (h1 : (fdT kind X Y x).2 ≠ 0) :
    Calls Try.prog 31 #[.agg #[.int .i64 kind, .slice ax X.length cx, .slice ay Y.length cy], .int .i64 x] w (AtRet (0, (fdT kind X Y x).2) w) := by
  have HF := Hd.mk fun w1 h => findX_any kind ax X cx ay Y cy x w1 h
  generalize fdT kind X Y x = R at *
  obtain ⟨R1, R2⟩ := R
  dsimp only at HF h1 ⊢
  have d1 : (R2 != 0) = true := by rw [bne_iff_ne]; exact h1
  generalize X.length = n at *
  generalize Y.length = m at *
  obtain ⟨W, hW, b1, b2⟩ := box_t w kind ax n cx ay m cy
  obtain ⟨y0, y1, y2⟩ := b1.cell
  have B2 := Hd.mk b2
  have T := Hd.mk (ht.belowK b2)
  clear b1 b2 ht h1
  go_enter Try.func31, Try.ntmps31
  go_upto_region 1 with fail
  clear hW
  go_wp2_with fail
  refine (HF.out _ T.out).mono ?_; rintro e w1 ⟨rfl, hb⟩
  have B3 := Hd.mk (B2.out.trans (hb.mono B2.out.size))
  clear hb
  go_wp2_with fail
  go_ret2
  exact ⟨rfl, B3.out⟩

set_option maxHeartbeats 1600000 in
set_option maxRecDepth 100000 in
/-- At a node. -/
theorem at_node (kind : Int) (ax : Option Addr) (X : List Int) (cx : Nat) (ay : Option Addr) (Y : List Nat) (cy : Nat) (x : Int) (w : World) (ht : Tbl w ax X ay Y) (k : Nat) (hk : k < X.length) (hm : Y.length = X.length) (h1 : fdT kind X Y x = ((k : Int), 0)) (h2 : X.getD k 0 = x) :
    Calls Try.prog 31 #[.agg #[.int .i64 kind, .slice ax X.length cx, .slice ay Y.length cy], .int .i64 x] w (AtRet (Y.getD k 0, 0) w) := by
  have HF := Hd.mk fun w1 h => findX_any kind ax X cx ay Y cy x w1 h
  rw [h1] at HF
  have lx := ht.ix.len
  obtain ⟨bx, ox, hax, c1⟩ := ht.ix.at k hk
  obtain ⟨by_, oy, hay, c2⟩ := ht.fy.at k (by omega)
  subst hax
  subst hay
  rw [h2] at c1
  have d1 : (x == x) = true := by simp
  generalize Y.getD k 0 = y at *
  generalize X.length = n at *
  generalize Y.length = m at *
  subst hm
  have k0 : (0 : Int) ≤ k := by omega
  have k2 : (k : Int) < m := by omega
  obtain ⟨x', hx'⟩ : ∃ x', x' = x := ⟨_, rfl⟩
  have d1 : (x' == x) = true := by rw [hx']; simp
  rw [← hx'] at c1
  obtain ⟨W, hW, b1, b2⟩ := box_t w kind (some ⟨bx, ox, none⟩) m cx (some ⟨by_, oy, none⟩) m cy
  obtain ⟨y0, y1, y2⟩ := b1.cell
  have B1 := Hd.mk b1
  have B2 := Hd.mk b2
  have T := Hd.mk (ht.belowK b2)
  have e1 : W.cell? ⟨bx, ox + k, none⟩ = some (.int .i64 x') := cell_of_below b2 (Nat.le_refl _) c1
  have e2 : W.cell? ⟨by_, oy + k, none⟩ = some (.float .f64 y) := cell_of_below b2 (Nat.le_refl _) c2
  have E1 := Hd.mk e1
  have E2 := Hd.mk e2
  clear b1 b2 ht h1 h2 c1 c2 hx' hk e1 e2
  go_enter Try.func31, Try.ntmps31
  go_upto_region 1 with fail
  clear hW
  go_wp2_with fail
  refine (HF.out _ T.out).mono ?_; rintro e w1 ⟨rfl, hb⟩
  have B3 := Hd.mk (B2.out.trans (hb.mono B2.out.size))
  obtain ⟨z0, z1, z2⟩ := (B1.out.below hb).cell
  have g1 := cell_of_below hb (Nat.le_refl _) E1.out
  have g2 := cell_of_below hb (Nat.le_refl _) E2.out
  clear hb y0 y1 y2
  go_wp2_with fail
  go_ret2
  exact ⟨rfl, B3.out⟩

/-- What a kind's way tells. -/
def WayTo (fid : FuncId) (v : Nat) (ax : Option Addr) (X : List Int) (cx : Nat) (ay : Option Addr) (Y : List Nat) (cy n : Nat) (kind : Int) (k : Nat) (i h : Int) : Prop :=
  ∀ w1, Tbl w1 ax X ay Y → Calls Try.prog fid #[.agg #[.int .i64 kind, .slice ax n cx, .slice ay n cy], .int .i64 k, .int .i64 i, .int .i64 h] w1 fun e w' => e = .returned (.float .f64 v) ∧ Below w1.heap.size w1 w'

set_option maxHeartbeats 3200000 in
set_option maxRecDepth 100000 in
theorem at_flat (ax : Option Addr) (X : List Int) (cx : Nat) (ay : Option Addr) (Y : List Nat) (cy : Nat) (x : Int) (w : World) (ht : Tbl w ax X ay Y) (k n v : Nat) (hn : X.length = n) (hm : Y.length = n) (hk : k + 1 < n) (hn2 : n ≤ 256) (h1 : fdT 1 X Y x = ((k : Int), 0)) (h2 : X.getD k 0 ≠ x)
    (i h : Int) (hi : x - X.getD k 0 = i) (hh : X.getD (k + 1) 0 - X.getD k 0 = h) (bi : -9223372036854775808 ≤ i ∧ i ≤ 9223372036854775807) (bh : -9223372036854775808 ≤ h ∧ h ≤ 9223372036854775807)
    (hw : WayTo 86 v ax X cx ay Y cy n 1 k i h) :
    Calls Try.prog 31 #[.agg #[.int .i64 1, .slice ax n cx, .slice ay n cy], .int .i64 x] w (AtRet (v, 0) w) := by
  have HF := Hd.mk fun w1 h => findX_any 1 ax X cx ay Y cy x w1 h
  rw [h1, hn, hm] at HF
  have eg := fun args w => enter_of Try.func86 (by kernel_rfl) rfl args w
  have HW : Hd (∀ w1, Tbl w1 ax X ay Y → Calls Try.prog 86 #[.agg #[.int .i64 1, .slice ax n cx, .slice ay n cy], .int .i64 k, .int .i64 i, .int .i64 h] w1 fun e w' => e = .returned (.float .f64 v) ∧ Below w1.heap.size w1 w') := ⟨hw⟩
  obtain ⟨bx, ox, hax, c1⟩ := ht.ix.at k (by omega)
  obtain ⟨bx', ox', hax', c2⟩ := ht.ix.at (k + 1) (by omega)
  rw [hax] at hax'
  cases hax'
  subst hax
  have d1 : (X.getD k 0 == x) = false := by rw [beq_eq_false_iff_ne]; exact h2
  have w1' : IntKind.i64.wrap (x - X.getD k 0) = i := by rw [hi]; exact IntWalk.i64_in _ bi
  have w2' : IntKind.i64.wrap (X.getD (k + 1) 0 - X.getD k 0) = h := by rw [hh]; exact IntWalk.i64_in _ bh
  generalize X.getD k 0 = xa at *
  generalize X.getD (k + 1) 0 = xb at *
  have wr1 : IntKind.i64.wrap ((k : Int) + 1) = (k : Int) + 1 := IntWalk.i64_in _ (by omega)
  have wr2 : ((k : Int) + 1).toNat = k + 1 := by omega
  have k0 : (0 : Int) ≤ k := by omega
  have k1 : (k : Int) + 1 < n := by omega
  have k2 : (k : Int) < n := by omega
  have k4 : (0 : Int) ≤ (k : Int) + 1 := by omega
  obtain ⟨W, hW, b1, b2⟩ := box_t w 1 (some ⟨bx, ox, none⟩) n cx ay n cy
  obtain ⟨y0, y1, y2⟩ := b1.cell
  have B1 := Hd.mk b1
  have B2 := Hd.mk b2
  have T := Hd.mk (ht.belowK b2)
  have E1 := Hd.mk (cell_of_below b2 (Nat.le_refl _) c1)
  have E2 := Hd.mk (cell_of_below b2 (Nat.le_refl _) c2)
  clear b1 b2 ht h1 h2 c1 c2 hk hi hh hn hm hw bi bh
  go_enter Try.func31, Try.ntmps31
  go_upto_region 1 with fail
  clear hW
  go_wp2_with fail
  refine (HF.out _ T.out).mono ?_; rintro e w1 ⟨rfl, hb⟩
  have B3 := Hd.mk (B2.out.trans (hb.mono B2.out.size))
  have T3 := Hd.mk (T.out.belowK hb)
  obtain ⟨z0, z1, z2⟩ := (B1.out.below hb).cell
  have g1 := cell_of_below hb (Nat.le_refl _) E1.out
  have g2 := cell_of_below hb (Nat.le_refl _) E2.out
  clear hb y0 y1 y2 B1 E1 E2
  go_wp2_with fail
  have TD : Hd (Tbl w1.drew (some ⟨bx, ox, none⟩) X ay Y) := ⟨⟨T3.out.ix.heap rfl, T3.out.fy.heap rfl⟩⟩
  have s0 : w1.drew.cell? ⟨w.heap.size, 0, none⟩ = _ := z0
  have s1 : w1.drew.cell? ⟨w.heap.size, 1, none⟩ = _ := z1
  have s2 : w1.drew.cell? ⟨w.heap.size, 2, none⟩ = _ := z2
  have s3 : w1.drew.cell? ⟨bx, ox + k, none⟩ = _ := g1
  have s4 : w1.drew.cell? ⟨bx, ox + (k + 1), none⟩ = _ := g2
  refine wp_region_still_tail 22 (by kernel_rfl) (by kernel_rfl) ?_
  simp only [List.take_succ_cons, List.take_zero, List.drop_succ_cons, List.drop_zero]
  change wpStill _ _ w1.drew _ _ _
  iterate 22 still_step
  refine wpStill_nil ?_
  change wpList _ _ _ _ _ w1.drew
  go_wp2_with fail
  refine (HW.out _ TD.out).mono ?_; rintro e w2 ⟨rfl, hb⟩
  have B4 := Hd.mk (B3.out.drew.trans (hb.mono B3.out.size))
  clear hb
  go_wp2_with fail
  go_ret2
  exact ⟨rfl, B4.out⟩

set_option maxHeartbeats 3200000 in
set_option maxRecDepth 100000 in
theorem at_linear (ax : Option Addr) (X : List Int) (cx : Nat) (ay : Option Addr) (Y : List Nat) (cy : Nat) (x : Int) (w : World) (ht : Tbl w ax X ay Y) (k n v : Nat) (hn : X.length = n) (hm : Y.length = n) (hk : k + 1 < n) (hn2 : n ≤ 256) (h1 : fdT 2 X Y x = ((k : Int), 0)) (h2 : X.getD k 0 ≠ x)
    (i h : Int) (hi : x - X.getD k 0 = i) (hh : X.getD (k + 1) 0 - X.getD k 0 = h) (bi : -9223372036854775808 ≤ i ∧ i ≤ 9223372036854775807) (bh : -9223372036854775808 ≤ h ∧ h ≤ 9223372036854775807)
    (hw : WayTo 87 v ax X cx ay Y cy n 2 k i h) :
    Calls Try.prog 31 #[.agg #[.int .i64 2, .slice ax n cx, .slice ay n cy], .int .i64 x] w (AtRet (v, 0) w) := by
  have HF := Hd.mk fun w1 h => findX_any 2 ax X cx ay Y cy x w1 h
  rw [h1, hn, hm] at HF
  have eg := fun args w => enter_of Try.func87 (by kernel_rfl) rfl args w
  have HW : Hd (∀ w1, Tbl w1 ax X ay Y → Calls Try.prog 87 #[.agg #[.int .i64 2, .slice ax n cx, .slice ay n cy], .int .i64 k, .int .i64 i, .int .i64 h] w1 fun e w' => e = .returned (.float .f64 v) ∧ Below w1.heap.size w1 w') := ⟨hw⟩
  obtain ⟨bx, ox, hax, c1⟩ := ht.ix.at k (by omega)
  obtain ⟨bx', ox', hax', c2⟩ := ht.ix.at (k + 1) (by omega)
  rw [hax] at hax'
  cases hax'
  subst hax
  have d1 : (X.getD k 0 == x) = false := by rw [beq_eq_false_iff_ne]; exact h2
  have w1' : IntKind.i64.wrap (x - X.getD k 0) = i := by rw [hi]; exact IntWalk.i64_in _ bi
  have w2' : IntKind.i64.wrap (X.getD (k + 1) 0 - X.getD k 0) = h := by rw [hh]; exact IntWalk.i64_in _ bh
  generalize X.getD k 0 = xa at *
  generalize X.getD (k + 1) 0 = xb at *
  have wr1 : IntKind.i64.wrap ((k : Int) + 1) = (k : Int) + 1 := IntWalk.i64_in _ (by omega)
  have wr2 : ((k : Int) + 1).toNat = k + 1 := by omega
  have k0 : (0 : Int) ≤ k := by omega
  have k1 : (k : Int) + 1 < n := by omega
  have k2 : (k : Int) < n := by omega
  have k4 : (0 : Int) ≤ (k : Int) + 1 := by omega
  obtain ⟨W, hW, b1, b2⟩ := box_t w 2 (some ⟨bx, ox, none⟩) n cx ay n cy
  obtain ⟨y0, y1, y2⟩ := b1.cell
  have B1 := Hd.mk b1
  have B2 := Hd.mk b2
  have T := Hd.mk (ht.belowK b2)
  have E1 := Hd.mk (cell_of_below b2 (Nat.le_refl _) c1)
  have E2 := Hd.mk (cell_of_below b2 (Nat.le_refl _) c2)
  clear b1 b2 ht h1 h2 c1 c2 hk hi hh hn hm hw bi bh
  go_enter Try.func31, Try.ntmps31
  go_upto_region 1 with fail
  clear hW
  go_wp2_with fail
  refine (HF.out _ T.out).mono ?_; rintro e w1 ⟨rfl, hb⟩
  have B3 := Hd.mk (B2.out.trans (hb.mono B2.out.size))
  have T3 := Hd.mk (T.out.belowK hb)
  obtain ⟨z0, z1, z2⟩ := (B1.out.below hb).cell
  have g1 := cell_of_below hb (Nat.le_refl _) E1.out
  have g2 := cell_of_below hb (Nat.le_refl _) E2.out
  clear hb y0 y1 y2 B1 E1 E2
  go_wp2_with fail
  have TD : Hd (Tbl w1.drew (some ⟨bx, ox, none⟩) X ay Y) := ⟨⟨T3.out.ix.heap rfl, T3.out.fy.heap rfl⟩⟩
  have s0 : w1.drew.cell? ⟨w.heap.size, 0, none⟩ = _ := z0
  have s1 : w1.drew.cell? ⟨w.heap.size, 1, none⟩ = _ := z1
  have s2 : w1.drew.cell? ⟨w.heap.size, 2, none⟩ = _ := z2
  have s3 : w1.drew.cell? ⟨bx, ox + k, none⟩ = _ := g1
  have s4 : w1.drew.cell? ⟨bx, ox + (k + 1), none⟩ = _ := g2
  refine wp_region_still_tail 22 (by kernel_rfl) (by kernel_rfl) ?_
  simp only [List.take_succ_cons, List.take_zero, List.drop_succ_cons, List.drop_zero]
  change wpStill _ _ w1.drew _ _ _
  iterate 22 still_step
  refine wpStill_nil ?_
  change wpList _ _ _ _ _ w1.drew
  go_wp2_with fail
  refine (HW.out _ TD.out).mono ?_; rintro e w2 ⟨rfl, hb⟩
  have B4 := Hd.mk (B3.out.drew.trans (hb.mono B3.out.size))
  clear hb
  go_wp2_with fail
  go_ret2
  exact ⟨rfl, B4.out⟩

set_option maxHeartbeats 3200000 in
set_option maxRecDepth 100000 in
theorem at_cubic (ax : Option Addr) (X : List Int) (cx : Nat) (ay : Option Addr) (Y : List Nat) (cy : Nat) (x : Int) (w : World) (ht : Tbl w ax X ay Y) (k n v : Nat) (hn : X.length = n) (hm : Y.length = n) (hk : k + 1 < n) (hn2 : n ≤ 256) (h1 : fdT 3 X Y x = ((k : Int), 0)) (h2 : X.getD k 0 ≠ x)
    (i h : Int) (hi : x - X.getD k 0 = i) (hh : X.getD (k + 1) 0 - X.getD k 0 = h) (bi : -9223372036854775808 ≤ i ∧ i ≤ 9223372036854775807) (bh : -9223372036854775808 ≤ h ∧ h ≤ 9223372036854775807)
    (hw : WayTo 88 v ax X cx ay Y cy n 3 k i h) :
    Calls Try.prog 31 #[.agg #[.int .i64 3, .slice ax n cx, .slice ay n cy], .int .i64 x] w (AtRet (v, 0) w) := by
  have HF := Hd.mk fun w1 h => findX_any 3 ax X cx ay Y cy x w1 h
  rw [h1, hn, hm] at HF
  have eg := fun args w => enter_of Try.func88 (by kernel_rfl) rfl args w
  have HW : Hd (∀ w1, Tbl w1 ax X ay Y → Calls Try.prog 88 #[.agg #[.int .i64 3, .slice ax n cx, .slice ay n cy], .int .i64 k, .int .i64 i, .int .i64 h] w1 fun e w' => e = .returned (.float .f64 v) ∧ Below w1.heap.size w1 w') := ⟨hw⟩
  obtain ⟨bx, ox, hax, c1⟩ := ht.ix.at k (by omega)
  obtain ⟨bx', ox', hax', c2⟩ := ht.ix.at (k + 1) (by omega)
  rw [hax] at hax'
  cases hax'
  subst hax
  have d1 : (X.getD k 0 == x) = false := by rw [beq_eq_false_iff_ne]; exact h2
  have w1' : IntKind.i64.wrap (x - X.getD k 0) = i := by rw [hi]; exact IntWalk.i64_in _ bi
  have w2' : IntKind.i64.wrap (X.getD (k + 1) 0 - X.getD k 0) = h := by rw [hh]; exact IntWalk.i64_in _ bh
  generalize X.getD k 0 = xa at *
  generalize X.getD (k + 1) 0 = xb at *
  have wr1 : IntKind.i64.wrap ((k : Int) + 1) = (k : Int) + 1 := IntWalk.i64_in _ (by omega)
  have wr2 : ((k : Int) + 1).toNat = k + 1 := by omega
  have k0 : (0 : Int) ≤ k := by omega
  have k1 : (k : Int) + 1 < n := by omega
  have k2 : (k : Int) < n := by omega
  have k4 : (0 : Int) ≤ (k : Int) + 1 := by omega
  obtain ⟨W, hW, b1, b2⟩ := box_t w 3 (some ⟨bx, ox, none⟩) n cx ay n cy
  obtain ⟨y0, y1, y2⟩ := b1.cell
  have B1 := Hd.mk b1
  have B2 := Hd.mk b2
  have T := Hd.mk (ht.belowK b2)
  have E1 := Hd.mk (cell_of_below b2 (Nat.le_refl _) c1)
  have E2 := Hd.mk (cell_of_below b2 (Nat.le_refl _) c2)
  clear b1 b2 ht h1 h2 c1 c2 hk hi hh hn hm hw bi bh
  go_enter Try.func31, Try.ntmps31
  go_upto_region 1 with fail
  clear hW
  go_wp2_with fail
  refine (HF.out _ T.out).mono ?_; rintro e w1 ⟨rfl, hb⟩
  have B3 := Hd.mk (B2.out.trans (hb.mono B2.out.size))
  have T3 := Hd.mk (T.out.belowK hb)
  obtain ⟨z0, z1, z2⟩ := (B1.out.below hb).cell
  have g1 := cell_of_below hb (Nat.le_refl _) E1.out
  have g2 := cell_of_below hb (Nat.le_refl _) E2.out
  clear hb y0 y1 y2 B1 E1 E2
  go_wp2_with fail
  have TD : Hd (Tbl w1.drew (some ⟨bx, ox, none⟩) X ay Y) := ⟨⟨T3.out.ix.heap rfl, T3.out.fy.heap rfl⟩⟩
  have s0 : w1.drew.cell? ⟨w.heap.size, 0, none⟩ = _ := z0
  have s1 : w1.drew.cell? ⟨w.heap.size, 1, none⟩ = _ := z1
  have s2 : w1.drew.cell? ⟨w.heap.size, 2, none⟩ = _ := z2
  have s3 : w1.drew.cell? ⟨bx, ox + k, none⟩ = _ := g1
  have s4 : w1.drew.cell? ⟨bx, ox + (k + 1), none⟩ = _ := g2
  refine wp_region_still_tail 22 (by kernel_rfl) (by kernel_rfl) ?_
  simp only [List.take_succ_cons, List.take_zero, List.drop_succ_cons, List.drop_zero]
  change wpStill _ _ w1.drew _ _ _
  iterate 22 still_step
  refine wpStill_nil ?_
  change wpList _ _ _ _ _ w1.drew
  go_wp2_with fail
  refine (HW.out _ TD.out).mono ?_; rintro e w2 ⟨rfl, hb⟩
  have B4 := Hd.mk (B3.out.drew.trans (hb.mono B3.out.size))
  clear hb
  go_wp2_with fail
  go_ret2
  exact ⟨rfl, B4.out⟩

set_option maxHeartbeats 3200000 in
set_option maxRecDepth 100000 in
theorem at_logs (ax : Option Addr) (X : List Int) (cx : Nat) (ay : Option Addr) (Y : List Nat) (cy : Nat) (x : Int) (w : World) (ht : Tbl w ax X ay Y) (k n v : Nat) (hn : X.length = n) (hm : Y.length = n) (hk : k + 1 < n) (hn2 : n ≤ 256) (h1 : fdT 4 X Y x = ((k : Int), 0)) (h2 : X.getD k 0 ≠ x)
    (i h : Int) (hi : x - X.getD k 0 = i) (hh : X.getD (k + 1) 0 - X.getD k 0 = h) (bi : -9223372036854775808 ≤ i ∧ i ≤ 9223372036854775807) (bh : -9223372036854775808 ≤ h ∧ h ≤ 9223372036854775807)
    (hw : WayTo 89 v ax X cx ay Y cy n 4 k i h) :
    Calls Try.prog 31 #[.agg #[.int .i64 4, .slice ax n cx, .slice ay n cy], .int .i64 x] w (AtRet (v, 0) w) := by
  have HF := Hd.mk fun w1 h => findX_any 4 ax X cx ay Y cy x w1 h
  rw [h1, hn, hm] at HF
  have eg := fun args w => enter_of Try.func89 (by kernel_rfl) rfl args w
  have HW : Hd (∀ w1, Tbl w1 ax X ay Y → Calls Try.prog 89 #[.agg #[.int .i64 4, .slice ax n cx, .slice ay n cy], .int .i64 k, .int .i64 i, .int .i64 h] w1 fun e w' => e = .returned (.float .f64 v) ∧ Below w1.heap.size w1 w') := ⟨hw⟩
  obtain ⟨bx, ox, hax, c1⟩ := ht.ix.at k (by omega)
  obtain ⟨bx', ox', hax', c2⟩ := ht.ix.at (k + 1) (by omega)
  rw [hax] at hax'
  cases hax'
  subst hax
  have d1 : (X.getD k 0 == x) = false := by rw [beq_eq_false_iff_ne]; exact h2
  have w1' : IntKind.i64.wrap (x - X.getD k 0) = i := by rw [hi]; exact IntWalk.i64_in _ bi
  have w2' : IntKind.i64.wrap (X.getD (k + 1) 0 - X.getD k 0) = h := by rw [hh]; exact IntWalk.i64_in _ bh
  generalize X.getD k 0 = xa at *
  generalize X.getD (k + 1) 0 = xb at *
  have wr1 : IntKind.i64.wrap ((k : Int) + 1) = (k : Int) + 1 := IntWalk.i64_in _ (by omega)
  have wr2 : ((k : Int) + 1).toNat = k + 1 := by omega
  have k0 : (0 : Int) ≤ k := by omega
  have k1 : (k : Int) + 1 < n := by omega
  have k2 : (k : Int) < n := by omega
  have k4 : (0 : Int) ≤ (k : Int) + 1 := by omega
  obtain ⟨W, hW, b1, b2⟩ := box_t w 4 (some ⟨bx, ox, none⟩) n cx ay n cy
  obtain ⟨y0, y1, y2⟩ := b1.cell
  have B1 := Hd.mk b1
  have B2 := Hd.mk b2
  have T := Hd.mk (ht.belowK b2)
  have E1 := Hd.mk (cell_of_below b2 (Nat.le_refl _) c1)
  have E2 := Hd.mk (cell_of_below b2 (Nat.le_refl _) c2)
  clear b1 b2 ht h1 h2 c1 c2 hk hi hh hn hm hw bi bh
  go_enter Try.func31, Try.ntmps31
  go_upto_region 1 with fail
  clear hW
  go_wp2_with fail
  refine (HF.out _ T.out).mono ?_; rintro e w1 ⟨rfl, hb⟩
  have B3 := Hd.mk (B2.out.trans (hb.mono B2.out.size))
  have T3 := Hd.mk (T.out.belowK hb)
  obtain ⟨z0, z1, z2⟩ := (B1.out.below hb).cell
  have g1 := cell_of_below hb (Nat.le_refl _) E1.out
  have g2 := cell_of_below hb (Nat.le_refl _) E2.out
  clear hb y0 y1 y2 B1 E1 E2
  go_wp2_with fail
  have TD : Hd (Tbl w1.drew (some ⟨bx, ox, none⟩) X ay Y) := ⟨⟨T3.out.ix.heap rfl, T3.out.fy.heap rfl⟩⟩
  have s0 : w1.drew.cell? ⟨w.heap.size, 0, none⟩ = _ := z0
  have s1 : w1.drew.cell? ⟨w.heap.size, 1, none⟩ = _ := z1
  have s2 : w1.drew.cell? ⟨w.heap.size, 2, none⟩ = _ := z2
  have s3 : w1.drew.cell? ⟨bx, ox + k, none⟩ = _ := g1
  have s4 : w1.drew.cell? ⟨bx, ox + (k + 1), none⟩ = _ := g2
  refine wp_region_still_tail 22 (by kernel_rfl) (by kernel_rfl) ?_
  simp only [List.take_succ_cons, List.take_zero, List.drop_succ_cons, List.drop_zero]
  change wpStill _ _ w1.drew _ _ _
  iterate 22 still_step
  refine wpStill_nil ?_
  change wpList _ _ _ _ _ w1.drew
  go_wp2_with fail
  refine (HW.out _ TD.out).mono ?_; rintro e w2 ⟨rfl, hb⟩
  have B4 := Hd.mk (B3.out.drew.trans (hb.mono B3.out.size))
  clear hb
  go_wp2_with fail
  go_ret2
  exact ⟨rfl, B4.out⟩

theorem fd_ok {kind : Int} {X : List Int} {Y : List Nat} {x : Int} (h : chkT kind X Y = 0) (h1 : ¬ (x < X.getD 0 0 ∨ lastT X < x)) : fdT kind X Y x = ((fndT X x : Int), 0) := by
  unfold fdT; rw [if_pos h, if_neg h1]

/-- At, as a whole. -/
theorem at_any10 (kind : Int) (ax : Option Addr) (X : List Int) (cx : Nat) (ay : Option Addr) (Y : List Nat) (cy : Nat) (x : Int) (w : World) (ht : Tbl w ax X ay Y) (hr : Room ay Y.length cy) :
    Calls Try.prog 31 #[.agg #[.int .i64 kind, .slice ax X.length cx, .slice ay Y.length cy], .int .i64 x] w (AtRet (atT kind X Y x) w) := by
  unfold atT
  by_cases hc : chkT kind X Y = 0
  · rw [if_pos hc]
    obtain ⟨ok, kl, kh, k4⟩ := chk_ok hc ht.fy.wf
    by_cases hx : x < X.getD 0 0 ∨ lastT X < x
    · rw [if_pos hx]
      have e : fdT kind X Y x = (0, 51) := by unfold fdT; rw [if_pos hc, if_pos hx]
      have := at_bad kind ax X cx ay Y cy x w ht (by rw [e]; decide)
      rwa [e] at this
    · rw [if_neg hx]
      have e := fd_ok hc hx
      obtain ⟨f1, f2, f3, _⟩ := fnd_ok ok (show X.getD 0 0 ≤ x by omega)
      by_cases hn : X.getD (fndT X x) 0 = x
      · rw [if_pos hn]
        exact at_node kind ax X cx ay Y cy x w ht _ f1 ok.ly e hn
      · rw [if_neg hn]
        obtain ⟨g1, g2, g3⟩ := fnd_in ok (show X.getD 0 0 ≤ x by omega) (show x ≤ lastT X by omega) hn
        have st := ok.step g1
        generalize fndT X x = k at *
        obtain ⟨i, hi⟩ : ∃ i, x - X.getD k 0 = i := ⟨_, rfl⟩
        obtain ⟨h, hh⟩ : ∃ h, X.getD (k + 1) 0 - X.getD k 0 = h := ⟨_, rfl⟩
        rw [hi, hh] at g3
        rw [hi] at g2
        rw [hh] at st
        rw [hi, hh]
        rw [ok.ly]
        have hr' : Room ay X.length cy := by rw [← ok.ly]; exact hr
        unfold btT
        by_cases e1 : kind = 1
        · subst e1
          rw [if_pos rfl]
          refine at_flat ax X cx ay Y cy x w ht k X.length _ rfl ok.ly g1 ok.max e hn i h hi hh (by omega) (by omega) (fun w1 h1 => ?_)
          have := flat_any 1 ax X.length cx ay Y cy k i h w1 h1.fy (by rw [ok.ly]; omega)
          rwa [ok.ly] at this
        rw [if_neg e1]
        by_cases e2 : kind = 2
        · subst e2
          rw [if_pos rfl]
          refine at_linear ax X cx ay Y cy x w ht k X.length _ rfl ok.ly g1 ok.max e hn i h hi hh (by omega) (by omega) (fun w1 h1 => ?_)
          have := linear_any 2 ax X.length cx ay Y cy k i h w1 h1.fy hr (by rw [ok.ly]; omega) g2 g3 st.1 st.2
          rwa [ok.ly] at this
        rw [if_neg e2]
        by_cases e3 : kind = 3
        · subst e3
          rw [if_pos rfl]
          refine at_cubic ax X cx ay Y cy x w ht k X.length _ rfl ok.ly g1 ok.max e hn i h hi hh (by omega) (by omega) (fun w1 h1 => ?_)
          exact cubic_any 3 ax X cx ay Y cy X.length k i h w1 h1 ok g1 g2 g3 st.1 st.2
        rw [if_neg e3]
        have e4 : kind = 4 := by omega
        subst e4
        refine at_logs ax X cx ay Y cy x w ht k X.length _ rfl ok.ly g1 ok.max e hn i h hi hh (by omega) (by omega) (fun w1 h1 => ?_)
        have := logs_any 4 ax X.length cx ay Y cy k i h w1 h1.fy (by rw [ok.ly]; omega) g2 g3 st.1 st.2 (ok.fn k (by omega)) (ok.fn (k + 1) g1) (ltF_pos (k4 rfl k (by omega))) (ltF_pos (k4 rfl (k + 1) g1))
        rwa [ok.ly] at this
  · rw [if_neg hc]
    have e : fdT kind X Y x = (0, chkT kind X Y) := by unfold fdT; rw [if_neg hc]
    have := at_bad kind ax X cx ay Y cy x w ht (by rw [e]; exact hc)
    rwa [e] at this

end Go.Proofs.Yteikihidblcljaa

/- The walk of tenorlaw10.awake. -/
namespace Go.Proofs.Yteikihidblcljaa
open Go.RowKit
set_option linter.unusedSimpArgs false
set_option linter.unusedVariables false

def aX : List Int := [0, 10, 20]
def aY : List Nat := [0, 4621819117588971520, 4630826316843712512]
theorem aw_1 : atT 3 aX aY 5 = (4616611830519824384, 0) := by decide +kernel
theorem aw_2 : fdT 3 aX aY 19 = (1, 0) := by decide +kernel
theorem aw_3 : chkT 3 aX aY = 0 := by decide +kernel
theorem aw_4 : slT aX aY 3 1 = 4609434218613702656 := by decide +kernel
theorem aw_5 : ptF aX aY 3 1 1 = 4624633867356078080 := by decide +kernel
theorem aw_6 : (FloatKind.f64.format.order 4616611830519824384 4616611830519824384 == some .eq) = true := by decide +kernel
theorem aw_7 : (FloatKind.f64.format.order 4609434218613702656 4609434218613702656 == some .eq) = true := by decide +kernel
theorem aw_8 : (FloatKind.f64.format.order 4624633867356078080 4624633867356078080 == some .eq) = true := by decide +kernel

theorem aw_tbl (w : World) : ∃ W, (w.alloc (.cells #[.int .i64 0, .int .i64 10, .int .i64 20] 3)).alloc (.cells #[.float .f64 0, .float .f64 4621819117588971520, .float .f64 4630826316843712512] 28) = W ∧
    Tbl W (some ⟨w.heap.size, 0, none⟩) aX (some ⟨w.heap.size + 1, 0, none⟩) aY ∧ Below w.heap.size w W ∧ W.heap.size = w.heap.size + 2 := by
  have hi := ins_new w aX 3 (getD_ins (P := fun x => -9223372036854775808 ≤ x ∧ x ≤ 9223372036854775807) (fun x hx => by simp [aX] at hx; omega) (by decide)) (by decide)
  have hf := fls_new (w.alloc (.cells #[.int .i64 0, .int .i64 10, .int .i64 20] 3)) aY 28 (getD_nat (P := F64) (fun x hx => by simp [aY] at hx; rcases hx with rfl | rfl | rfl <;> exact ⟨by decide⟩) ⟨by decide⟩) (by decide)
  have e : (w.alloc (.cells #[.int .i64 0, .int .i64 10, .int .i64 20] 3)).heap.size = w.heap.size + 1 := by simp
  rw [e] at hf
  exact ⟨_, rfl, ⟨hi.belowK ((Below.refl _ _).alloc (Nat.le_refl _) _), hf⟩, ((Below.refl _ _).alloc (Nat.le_refl _) _).alloc (by simp) _, by simp⟩

set_option maxHeartbeats 3200000 in
set_option maxRecDepth 100000 in
theorem awake10_any (w : World) : Calls Try.prog 30 #[] w fun e w' => e = .returned (.bool true) ∧ Below w.heap.size w w' := by
  have c1 := aw_6
  have c2 := aw_7
  have c3 := aw_8
  obtain ⟨W, hW, ht, hb, hs⟩ := aw_tbl w
  have T := Hd.mk ht
  have B := Hd.mk hb
  have HA : Hd (∀ w1, Tbl w1 (some ⟨w.heap.size, 0, none⟩) aX (some ⟨w.heap.size + 1, 0, none⟩) aY → Calls Try.prog 31 #[.agg #[.int .i64 3, .slice (some ⟨w.heap.size, 0, none⟩) 3 3, .slice (some ⟨w.heap.size + 1, 0, none⟩) 3 3], .int .i64 5] w1 fun e w' => e = .returned (.tuple #[.float .f64 4616611830519824384, .int .i64 0]) ∧ Below w1.heap.size w1 w') := ⟨fun w1 h => by
    have := at_any10 3 _ aX 3 _ aY 3 5 w1 h ⟨by decide, by decide, fun e => by cases e⟩
    unfold AtRet at this
    rw [aw_1] at this
    exact this⟩
  have HF : Hd (∀ w1, Tbl w1 (some ⟨w.heap.size, 0, none⟩) aX (some ⟨w.heap.size + 1, 0, none⟩) aY → Calls Try.prog 83 #[.agg #[.int .i64 3, .slice (some ⟨w.heap.size, 0, none⟩) 3 3, .slice (some ⟨w.heap.size + 1, 0, none⟩) 3 3], .int .i64 19] w1 fun e w' => e = .returned (.tuple #[.int .i64 1, .int .i64 0]) ∧ Below w1.heap.size w1 w') := ⟨fun w1 h => by
    have := findX_any 3 _ aX 3 _ aY 3 19 w1 h
    rw [aw_2] at this
    exact this⟩
  have HS : Hd (∀ w1, Tbl w1 (some ⟨w.heap.size, 0, none⟩) aX (some ⟨w.heap.size + 1, 0, none⟩) aY → Calls Try.prog 84 #[.agg #[.int .i64 3, .slice (some ⟨w.heap.size, 0, none⟩) 3 3, .slice (some ⟨w.heap.size + 1, 0, none⟩) 3 3]] w1 (RowRet2 3 (slT aX aY 3) w1)) := ⟨fun w1 h => slopesX_ok 3 _ aX 3 _ aY 3 w1 h aw_3⟩
  have HP : Hd (∀ w1, Tbl w1 (some ⟨w.heap.size, 0, none⟩) aX (some ⟨w.heap.size + 1, 0, none⟩) aY → Calls Try.prog 85 #[.agg #[.int .i64 3, .slice (some ⟨w.heap.size, 0, none⟩) 3 3, .slice (some ⟨w.heap.size + 1, 0, none⟩) 3 3], .int .i64 1] w1 (RowRet2 4 (ptF aX aY 3 1) w1)) := ⟨fun w1 h => pointsX_ok 3 _ aX 3 _ aY 3 1 w1 h aw_3 (by decide)⟩
  obtain ⟨V, hV, v1, v2⟩ := box_t W 3 (some ⟨w.heap.size, 0, none⟩) 3 3 (some ⟨w.heap.size + 1, 0, none⟩) 3 3
  have V1 := Hd.mk v1
  have V2 := Hd.mk v2
  clear v1 v2
  have hS := Hd.mk hs
  clear ht hb hs
  have e4 := aw_4
  have e5 := aw_5
  generalize hf1 : slT aX aY 3 = f1 at *
  generalize hf2 : ptF aX aY 3 1 = f2 at *
  clear hf1 hf2
  generalize aX = X at *
  generalize aY = Y at *
  go_enter Try.func30, Try.ntmps30
  go_upto_region 2 with fail
  have TV := Hd.mk (T.out.belowK V2.out)
  have BV := Hd.mk (B.out.trans (V2.out.mono B.out.size))
  obtain ⟨y0, y1, y2⟩ := V1.out.cell
  clear hV hW hS
  go_wp2_with fail
  refine (HA.out _ TV.out).mono ?_; rintro e w1 ⟨rfl, hb⟩
  have T1 := Hd.mk (TV.out.belowK hb)
  have U1 := Hd.mk (V1.out.below hb)
  have C1 := Hd.mk (BV.out.trans (hb.mono BV.out.size))
  clear hb y0 y1 y2
  obtain ⟨y0, y1, y2⟩ := U1.out.cell
  go_wp2_with fail
  refine (HF.out _ T1.out).mono ?_; rintro e w2 ⟨rfl, hb⟩
  have T2 := Hd.mk (T1.out.belowK hb)
  have U2 := Hd.mk (U1.out.below hb)
  have C2 := Hd.mk (C1.out.trans (hb.mono C1.out.size))
  clear hb y0 y1 y2
  obtain ⟨y0, y1, y2⟩ := U2.out.cell
  go_wp2_with fail
  refine (HS.out _ T2.out).mono ?_; rintro e w3 ⟨bs, rfl, hf⟩
  have T3 := Hd.mk (T2.out.belowK hf.below)
  have U3 := Hd.mk (U2.out.below hf.below)
  have F3 := Hd.mk (hf.base C2.out)
  clear hf y0 y1 y2
  obtain ⟨y0, y1, y2⟩ := U3.out.cell
  go_wp2_with fail
  refine (HP.out _ T3.out).mono ?_; rintro e w4 ⟨bp, rfl, hf⟩
  have r1 : w4.cell? ⟨bs, 1, none⟩ = some (.float .f64 4609434218613702656) := by
    have := (F3.out.after hf.below).row.cell (i := 1) (by decide)
    rw [e4] at this; exact this
  have r2 : w4.cell? ⟨bp, 1, none⟩ = some (.float .f64 4624633867356078080) := by
    have := hf.row.cell (i := 1) (by decide)
    rw [e5] at this; exact this
  have C4 := Hd.mk (F3.out.below.trans (hf.below.mono F3.out.below.size))
  clear hf y0 y1 y2
  go_wp2_with fail
  go_ret
  exact ⟨rfl, C4.out⟩

end Go.Proofs.Yteikihidblcljaa
