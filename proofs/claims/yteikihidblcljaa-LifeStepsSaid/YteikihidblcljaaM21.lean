/- Put together out of several texts: Na Nb Nc Nd Ne Nf Ng Nr Nh Ni Nj Nk No Np Ns. -/
import Derived.Test.YteikihidblcljaaM10
import Derived.Test.YteikihidblcljaaM4
import Derived.Test.YteikihidblcljaaM2
import Derived.Test.YteikihidblcljaaM6
import Derived.Test.YteikihidblcljaaM3
import Derived.Test.YteikihidblcljaaM11
import Derived.Test.YteikihidblcljaaM7
import Derived.StillTailTactics
import Derived.Deep.RegionHeld3

/- The walks of the reference's Left, Pair and Kahan. -/
namespace Go.Proofs.Yteikihidblcljaa
open Go.RowKit
set_option linter.unusedSimpArgs false
set_option linter.unusedVariables false

theorem fadd_cnr (x y : Nat) (hx : F64 x) (hy : F64 y) : fadd x (cn y) = fadd x y := by
  rw [← fadd_cn x (cn y) hx (F64_cn y hy), cn_cn, fadd_cn x y hx hy]
theorem fsub_cn2 (x y : Nat) (hx : F64 x) (hy : F64 y) : fsub (cn x) (cn y) = fsub x y := by unfold fsub; rw [sub_cn x y hx hy]
theorem fsub_cnl (x y : Nat) (hx : F64 x) (hy : F64 y) : fsub (cn x) y = fsub x y := by
  rw [← fsub_cn2 (cn x) y (F64_cn x hx) hy, cn_cn, fsub_cn2 x y hx hy]

/-- Steps from the left, on raw words. -/
def leftR (l : List Nat) : Nat := l.foldl fadd 0
theorem foldl_cn {β : Type} (f g : β → Nat → β) (P : β → Prop) (hf : ∀ s x, P s → F64 x → f s x = g s x ∧ P (g s x)) : ∀ (l : List Nat) (s : β), P s → (∀ i, F64 (l.getD i 0)) → l.foldl f s = l.foldl g s
  | [], _, _, _ => rfl
  | x :: l, s, hs, hl => by
    have h := hf s x hs (hl 0)
    rw [List.foldl_cons, List.foldl_cons, h.1]
    exact foldl_cn f g P hf l _ h.2 fun i => by have := hl (i + 1); simpa using this
theorem leftR_eq (l : List Nat) (hl : ∀ i, F64 (l.getD i 0)) : leftR l = leftF l :=
  (foldl_cn (fun s x => fadd s (cn x)) fadd F64 (fun s x hs hx => ⟨fadd_cnr s x hs hx, F64_fadd _ _⟩) l 0 F64_0 hl).symm
theorem leftR_take (l : List Nat) (k : Nat) (h : k < l.length) : leftR (l.take (k + 1)) = fadd (leftR (l.take k)) (l.getD k 0) := by
  unfold leftR
  rw [take_next l k h, List.foldl_append]
  rfl
theorem Us.at {w : World} {a : Option Addr} {l : List Nat} (h : Us w a l) (k : Nat) (hk : k < l.length) : ∃ b o, a = some ⟨b, o, none⟩ ∧ w.cell? ⟨b, o + k, none⟩ = some (.int .u64 (l.getD k 0)) := by
  cases ha : a with
  | none => have := h.nil ha; rw [this] at hk; simp at hk
  | some p => obtain ⟨b, o, v⟩ := p; have h2 := h.cell b o v ha k hk; obtain ⟨rfl, h3⟩ := h2; exact ⟨b, o, rfl, h3⟩
theorem F64_leftR (l : List Nat) : F64 (leftR l) := by
  unfold leftR
  suffices h : ∀ (l : List Nat) s, F64 s → F64 (l.foldl fadd s) from h l 0 F64_0
  intro l
  induction l with
  | nil => exact fun s hs => hs
  | cons x l ih => exact fun s _ => ih _ (F64_fadd _ _)

end Go.Proofs.Yteikihidblcljaa

/- The walks of the reference's Pair and Kahan. -/
namespace Go.Proofs.Yteikihidblcljaa
open Go.RowKit
set_option linter.unusedSimpArgs false
set_option linter.unusedVariables false

/-- A sum by halves, on raw words. -/
def pairR : Nat → List Nat → Nat
  | 0, _ => 0
  | n + 1, l => if l.length = 0 then 0 else if l.length = 1 then l.getD 0 0 else fadd (pairR n (l.take (l.length / 2))) (pairR n (l.drop (l.length / 2)))
theorem wf_take {l : List Nat} (h : ∀ i, F64 (l.getD i 0)) (k : Nat) (i : Nat) : F64 ((l.take k).getD i 0) := by
  by_cases hi : i < k
  · have := h i
    simp only [List.getD_eq_getElem?_getD] at this ⊢
    rwa [List.getElem?_take_of_lt hi]
  · simp only [List.getD_eq_getElem?_getD]
    rw [List.getElem?_eq_none (by rw [List.length_take]; omega)]
    exact ⟨by decide⟩
theorem wf_drop {l : List Nat} (h : ∀ i, F64 (l.getD i 0)) (k : Nat) (i : Nat) : F64 ((l.drop k).getD i 0) := by
  have := h (k + i)
  simp only [List.getD_eq_getElem?_getD] at this ⊢
  rwa [List.getElem?_drop]
theorem F64_pairR : ∀ (n : Nat) (l : List Nat), (∀ i, F64 (l.getD i 0)) → F64 (pairR n l) := by
  intro n l h
  cases n with
  | zero => exact F64_0
  | succ n =>
    unfold pairR
    split
    · exact F64_0
    · split
      · exact h 0
      · exact F64_fadd _ _
theorem pairR_cn : ∀ (n : Nat) (l : List Nat), (∀ i, F64 (l.getD i 0)) → cn (pairR n l) = pairF n l := by
  intro n
  induction n with
  | zero => exact fun l _ => cn_zero
  | succ n ih =>
    intro l h
    unfold pairR pairF
    by_cases h0 : l.length = 0
    · rw [if_pos h0, if_pos h0]; exact cn_zero
    · rw [if_neg h0, if_neg h0]
      by_cases h1 : l.length = 1
      · rw [if_pos h1, if_pos h1]
      · rw [if_neg h1, if_neg h1, cn_fin_add, ← ih _ (wf_take h _), ← ih _ (wf_drop h _), fadd_cn _ _ (F64_pairR _ _ (wf_take h _)) (F64_pairR _ _ (wf_drop h _))]

theorem Us.takeK {w : World} {b o : Nat} {l : List Nat} (h : Us w (some ⟨b, o, none⟩) l) (k : Nat) (hk : k ≤ l.length) : Us w (some ⟨b, o, none⟩) (l.take k) :=
  ⟨(fun e => by cases e), fun b' o' v e i hi => by
    rw [List.length_take] at hi
    have := h.cell b' o' v e i (by omega)
    refine ⟨this.1, ?_⟩
    rw [this.2]
    congr 2
    simp only [List.getD_eq_getElem?_getD]
    rw [List.getElem?_take_of_lt (by omega)], wf_take h.wf k, by rw [List.length_take]; have := h.len; omega⟩
theorem Us.dropK {w : World} {b o : Nat} {l : List Nat} (h : Us w (some ⟨b, o, none⟩) l) (k : Nat) (hk : k ≤ l.length) : Us w (some ⟨b, o + k, none⟩) (l.drop k) :=
  ⟨(fun e => by cases e), fun b' o' v e i hi => by
    rw [List.length_drop] at hi
    cases e
    have := (h.cell b o none rfl (k + i) (by omega)).2
    refine ⟨rfl, ?_⟩
    rw [show o + k + i = o + (k + i) by omega, this]
    congr 2
    simp only [List.getD_eq_getElem?_getD]
    rw [List.getElem?_drop], wf_drop h.wf k, by rw [List.length_drop]; have := h.len; omega⟩

end Go.Proofs.Yteikihidblcljaa

/- The walk of the reference's Kahan. -/
namespace Go.Proofs.Yteikihidblcljaa
open Go.RowKit
set_option linter.unusedSimpArgs false
set_option linter.unusedVariables false

theorem gmB_cn (s x : Nat) : gmB s (cn x) = gmB s x := by
  cases h : nn x
  · rw [cn_of x h]
  · unfold gmB; rw [nn_cn, h]; simp
theorem kahS_cn (p : Nat × Nat) (x : Nat) (h1 : F64 p.1) (h2 : F64 p.2) (hx : F64 x) : kahS p (cn x) = kahS p x := by
  unfold kahS
  rw [gmB_cn, fadd_cnr p.1 x h1 hx, fadd_cnr _ x (F64_fsub _ _) hx, fsub_cnl x _ hx (F64_fadd _ _)]
theorem F64_kahS (p : Nat × Nat) (x : Nat) : F64 (kahS p x).1 ∧ F64 (kahS p x).2 := ⟨F64_fadd _ _, F64_fadd _ _⟩
def kahR (l : List Nat) : Nat × Nat := l.foldl kahS (0, 0)
theorem kahR_eq (l : List Nat) (hl : ∀ i, F64 (l.getD i 0)) : kahR l = kahP l :=
  (foldl_cn (fun p x => kahS p (cn x)) kahS (fun p => F64 p.1 ∧ F64 p.2) (fun p x h hx => ⟨kahS_cn p x h.1 h.2 hx, F64_kahS p x⟩) l (0, 0) ⟨F64_0, F64_0⟩ hl).symm
theorem kahR_take (l : List Nat) (k : Nat) (h : k < l.length) : kahR (l.take (k + 1)) = kahS (kahR (l.take k)) (l.getD k 0) := by
  unfold kahR
  rw [take_next l k h, List.foldl_append]
  rfl
theorem F64_kahR (l : List Nat) : F64 (kahR l).1 ∧ F64 (kahR l).2 := by
  unfold kahR
  suffices h : ∀ (l : List Nat) p, F64 p.1 ∧ F64 p.2 → F64 (l.foldl kahS p).1 ∧ F64 (l.foldl kahS p).2 from h l (0, 0) ⟨F64_0, F64_0⟩
  intro l
  induction l with
  | nil => exact fun p hp => hp
  | cons x l ih => exact fun p _ => ih _ (F64_kahS p x)
theorem gmB_lt (s x : Nat) (hs : nn s = false) (hx : nn x = false) : (!ltB (mg s) (mg x)) = gmB s x := by
  have h1 := mg_lt s
  have h2 := mg_lt x
  unfold ltB gmB nn
  rw [mg_small _ h1, mg_small _ h2]
  unfold nn at hs hx
  rw [hs, hx]
  rw [rk_of_pos (ng_small _ h1), rk_of_pos (ng_small _ h2), mg_small _ h1, mg_small _ h2]
  simp only [Bool.not_false, Bool.true_and]
  rw [Bool.eq_iff_iff]
  simp
theorem gmB_nan (s x : Nat) (h : nn s = true ∨ nn x = true) : gmB s x = false := by
  unfold gmB
  rcases h with h | h <;> rw [h] <;> simp


end Go.Proofs.Yteikihidblcljaa

/- The reference's accumulator: its state and its sum; the walk of inf. -/
namespace Go.Proofs.Yteikihidblcljaa
open Go.RowKit
set_option linter.unusedSimpArgs false
set_option linter.unusedVariables false

def stOf (up dn : Bool) : Int := if up && dn then 3 else if up then 1 else if dn then 2 else 0

/-- The reference's accumulator of the sum z. -/
structure R3 (w : World) (s : Bool) (a : Option Addr) (d : Nat) (e : Int) (z : Int) (up dn : Bool) : Prop where
  dg : Dgs w a d
  sm : nd d ≤ 140
  lo : -2148 ≤ e
  hi : e ≤ 2000
  val : up = false → dn = false → sg s (d * 2 ^ (e + 2148).toNat) = z
def R3V (st : Int) (s : Bool) (a : Option Addr) (n c : Nat) (e : Int) : Value := .agg #[.int .i64 st, .bool s, .slice a n c, .int .i64 e]
def R3Ret (z : Int) (up dn : Bool) (w : World) (en : Ending) (w' : World) : Prop :=
  ∃ s a d c e, en = .returned (.agg #[.int .i64 (stOf up dn), .bool s, .slice a (nd d) c, .int .i64 e]) ∧ R3 w' s a d e z up dn ∧ Below w.heap.size w w'
theorem R3.below {w w' : World} {s : Bool} {a : Option Addr} {d : Nat} {e z : Int} {up dn : Bool} (h : R3 w s a d e z up dn) (hb : Below w.heap.size w w') : R3 w' s a d e z up dn :=
  ⟨h.dg.below hb, h.sm, h.lo, h.hi, h.val⟩
theorem R3.zero (w : World) (z : Int) (up dn : Bool) (h : up = false → dn = false → z = 0) : R3 w false none 0 0 z up dn :=
  ⟨Dgs.zero w, by decide, by decide, by decide, fun h1 h2 => by rw [h h1 h2, Nat.zero_mul]; rfl⟩

set_option maxHeartbeats 1600000 in
theorem r3inf_any (up dn neg : Bool) (s : Bool) (a : Option Addr) (n c : Nat) (e : Int) (w : World) :
    Calls Try.prog 58 #[.agg #[.int .i64 (stOf up dn), .bool s, .slice a n c, .int .i64 e], .bool neg] w fun en w' =>
      en = .returned (.agg #[.int .i64 (stOf (up || !neg) (dn || neg)), .bool false, .slice none 0 0, .int .i64 0]) ∧ Below w.heap.size w w' := by
  have HB : Hd (∀ (o : Obj) (o' : Obj), Below w.heap.size w ((w.alloc o).alloc o')) := ⟨fun o o' => (((Below.refl _ _).alloc (Nat.le_refl _) o).alloc (World.alloc_size_le _ _) o')⟩
  cases up <;> cases dn <;> cases neg
  · rw [show stOf false false = 0 from rfl, show stOf (false || !false) (false || false) = 1 from rfl]
    go_enter Try.func58, Try.ntmps58
    go_wp2_with fail
    exact bodyPost_ret (v := .agg #[.int .i64 1, .bool false, .slice none 0 0, .int .i64 0]) (by simp [results, Try.results58, go_sem]) rfl ⟨rfl, HB.out _ _⟩
  · rw [show stOf false false = 0 from rfl, show stOf (false || !true) (false || true) = 2 from rfl]
    go_enter Try.func58, Try.ntmps58
    go_wp2_with fail
    exact bodyPost_ret (v := .agg #[.int .i64 2, .bool false, .slice none 0 0, .int .i64 0]) (by simp [results, Try.results58, go_sem]) rfl ⟨rfl, HB.out _ _⟩
  · rw [show stOf false true = 2 from rfl, show stOf (false || !false) (true || false) = 3 from rfl]
    go_enter Try.func58, Try.ntmps58
    go_wp2_with fail
    exact bodyPost_ret (v := .agg #[.int .i64 3, .bool false, .slice none 0 0, .int .i64 0]) (by simp [results, Try.results58, go_sem]) rfl ⟨rfl, HB.out _ _⟩
  · rw [show stOf false true = 2 from rfl, show stOf (false || !true) (true || true) = 2 from rfl]
    go_enter Try.func58, Try.ntmps58
    go_wp2_with fail
    exact bodyPost_ret (v := .agg #[.int .i64 2, .bool false, .slice none 0 0, .int .i64 0]) (by simp [results, Try.results58, go_sem]) rfl ⟨rfl, HB.out _ _⟩
  · rw [show stOf true false = 1 from rfl, show stOf (true || !false) (false || false) = 1 from rfl]
    go_enter Try.func58, Try.ntmps58
    go_wp2_with fail
    exact bodyPost_ret (v := .agg #[.int .i64 1, .bool false, .slice none 0 0, .int .i64 0]) (by simp [results, Try.results58, go_sem]) rfl ⟨rfl, HB.out _ _⟩
  · rw [show stOf true false = 1 from rfl, show stOf (true || !true) (false || true) = 3 from rfl]
    go_enter Try.func58, Try.ntmps58
    go_wp2_with fail
    exact bodyPost_ret (v := .agg #[.int .i64 3, .bool false, .slice none 0 0, .int .i64 0]) (by simp [results, Try.results58, go_sem]) rfl ⟨rfl, HB.out _ _⟩
  · rw [show stOf true true = 3 from rfl, show stOf (true || !false) (true || false) = 3 from rfl]
    go_enter Try.func58, Try.ntmps58
    go_wp2_with fail
    exact bodyPost_ret (v := .agg #[.int .i64 3, .bool false, .slice none 0 0, .int .i64 0]) (by simp [results, Try.results58, go_sem]) rfl ⟨rfl, HB.out _ _⟩
  · rw [show stOf true true = 3 from rfl, show stOf (true || !true) (true || true) = 3 from rfl]
    go_enter Try.func58, Try.ntmps58
    go_wp2_with fail
    exact bodyPost_ret (v := .agg #[.int .i64 3, .bool false, .slice none 0 0, .int .i64 0]) (by simp [results, Try.results58, go_sem]) rfl ⟨rfl, HB.out _ _⟩

end Go.Proofs.Yteikihidblcljaa

/- What the reference's sums are worth, in the units of a sum. -/
namespace Go.Proofs.Yteikihidblcljaa
open Go.RowKit
set_option linter.unusedSimpArgs false
set_option linter.unusedVariables false

theorem lt_pow_mono {x a b : Nat} (h : x < 2 ^ a) (k : a ≤ b) : x < 2 ^ b := Nat.lt_of_lt_of_le h (Nat.pow_le_pow_right (by decide) k)
theorem AccB_nd {z : Int} (h : AccB z) {d : Nat} (hd : d ≤ z.natAbs) : nd d ≤ 140 := by
  have h1 := fits_aux z 67 1 h.1 h.2
  rw [Nat.div_one] at h1
  obtain ⟨n, hn⟩ : ∃ n, n = 140 := ⟨_, rfl⟩
  obtain ⟨k, hk⟩ : ∃ k, k = 64 * (67 + 1) := ⟨_, rfl⟩
  rw [← hk] at h1
  rw [← hn]
  refine nd_le ?_
  rw [BB_pow]
  exact lt_pow_mono (Nat.lt_of_le_of_lt hd h1) (by omega)
theorem sg_natAbs (s : Bool) (A : Nat) : (sg s A).natAbs = A := by unfold sg; split <;> omega
theorem sg_zero (s : Bool) : sg s 0 = 0 := by unfold sg; split <;> rfl
theorem sumD_sg (s : Bool) (A : Nat) (s' : Bool) (B : Nat) : sg (sumS s A s' B) (sumD s A s' B) = sg s A + sg s' B := by
  obtain ⟨h1, h2⟩ := sum_sg s A s' B
  generalize sg s A + sg s' B = t at *
  by_cases h0 : sumD s A s' B = 0
  · rw [h0, sg_zero]; omega
  · have h3 := h2 h0
    rw [← h3]
    unfold sg
    by_cases ht : t < 0
    · rw [if_pos (by simpa using ht)]; omega
    · rw [if_neg (by simpa using ht)]; omega
theorem low_val (s : Bool) (d : Nat) (e E : Int) (hE : -2148 ≤ E) (h : d ≠ 0 → E ≤ e) : sg s (lowN d e E) * ((2 ^ (E + 2148).toNat : Nat) : Int) = sg s (d * 2 ^ (e + 2148).toNat) := by
  rw [← sg_scale]
  congr 1
  unfold lowN
  by_cases h0 : d = 0
  · subst h0; simp
  · have := h h0
    rw [Nat.mul_assoc, ← Nat.pow_add]
    congr 2
    omega
theorem plus_val (s : Bool) (d : Nat) (e : Int) (s' : Bool) (d' : Nat) (e' : Int) (l : -2148 ≤ e) (l' : -2148 ≤ e') (u : e ≤ 2000) (u' : e' ≤ 2000) :
    ∀ E A B, plE d e d' e' = E → lowN d e E = A → lowN d' e' E = B →
    -2148 ≤ sumE s A s' B E ∧ sumE s A s' B E ≤ 2000 ∧ sg (sumS s A s' B) (sumD s A s' B * 2 ^ (sumE s A s' B E + 2148).toNat) = sg s (d * 2 ^ (e + 2148).toNat) + sg s' (d' * 2 ^ (e' + 2148).toNat) := by
  intro E A B hE hA hB
  have b1 : -2148 ≤ E ∧ E ≤ 2000 := by rw [← hE]; unfold plE; split; omega; split; omega; omega
  have e1 : d ≠ 0 → E ≤ e := by intro h0; rw [← hE]; unfold plE; rw [if_neg h0]; split <;> omega
  have e2 : d' ≠ 0 → E ≤ e' := by intro h0; rw [← hE]; unfold plE; rw [if_neg h0]; split <;> omega
  have v1 := low_val s d e E b1.1 e1
  have v2 := low_val s' d' e' E b1.1 e2
  rw [hA] at v1
  rw [hB] at v2
  rw [← v1, ← v2, ← Int.add_mul, ← sumD_sg]
  refine ⟨by unfold sumE; split; omega; split <;> omega, by unfold sumE; split; omega; split <;> omega, ?_⟩
  rw [sg_scale]
  by_cases hz : sumD s A s' B = 0
  · rw [hz, sg_zero, Int.zero_mul, Int.zero_mul]
  · have : sumE s A s' B E = E := by
      unfold sumE
      unfold sumD at hz
      split
      · rfl
      · rename_i hn
        rw [if_neg hn] at hz
        split
        · rename_i he; rw [if_pos he] at hz; exact absurd rfl hz
        · rfl
    rw [this]
theorem of_val (u : Nat) (hu : F64 u) (f : fin u = true) :
    -2148 ≤ (if mnt u = 0 then 0 else exq u) ∧ (if mnt u = 0 then 0 else exq u) ≤ 971 ∧ sg (ng u && !(mnt u == 0)) (mnt u * 2 ^ ((if mnt u = 0 then 0 else exq u) + 2148).toNat) = aZ u := by
  have hb := exq_bd u f
  by_cases h : mnt u = 0
  · rw [if_pos h, h, Nat.zero_mul, sg_zero, aZ_zero u ((mnt_zero u).1 h)]
    omega
  · rw [if_neg h, show (ng u && !(mnt u == 0)) = ng u by simp [h]]
    have h1 := add_units u hu f
    rw [Nat.zero_mul, Nat.zero_add] at h1
    rw [h1]
    refine ⟨by omega, by omega, ?_⟩
    unfold aZ; rw [f, if_pos rfl]
theorem times_val (u v : Nat) (hu : F64 u) (hv : F64 v) (f : fin u = true) (f' : fin v = true) :
    ∀ s d e s' d' e', (ng u && !(mnt u == 0)) = s → mnt u = d → (if mnt u = 0 then 0 else exq u) = e → (ng v && !(mnt v == 0)) = s' → mnt v = d' → (if mnt v = 0 then 0 else exq v) = e' →
    -2148 ≤ (if d * d' = 0 then 0 else e + e') ∧ (if d * d' = 0 then 0 else e + e') ≤ 1942 ∧ sg ((s != s') && !(d * d' == 0)) (d * d' * 2 ^ ((if d * d' = 0 then 0 else e + e') + 2148).toNat) = pZ u v := by
  intro s d e s' d' e' hs hd he hs' hd' he'
  have hb := exq_bd u f
  have hb' := exq_bd v f'
  have hp : pZ u v = SV u * SV v := by unfold pZ; rw [f, f']; rfl
  by_cases h : d * d' = 0
  · rw [if_pos h, h, Nat.zero_mul, sg_zero, hp]
    refine ⟨by decide, by decide, ?_⟩
    rcases Nat.mul_eq_zero.1 h with h1 | h1
    · rw [SV_mg0 u ((mnt_zero u).1 (hd.trans h1)), Int.zero_mul]
    · rw [SV_mg0 v ((mnt_zero v).1 (hd'.trans h1)), Int.mul_zero]
  · have h1 : mnt u ≠ 0 := fun e0 => h (by rw [← hd, e0, Nat.zero_mul])
    have h2 : mnt v ≠ 0 := fun e0 => h (by rw [← hd', e0, Nat.mul_zero])
    rw [if_neg h1] at he
    rw [if_neg h2] at he'
    have hs1 : ng u = s := by rw [← hs]; simp [h1]
    have hs2 : ng v = s' := by rw [← hs']; simp [h2]
    rw [if_neg h, hp]
    have h3 := prod_units u v hu hv f f'
    rw [← h3, ← hs1, ← hs2, ← hd, ← hd', ← he, ← he']
    refine ⟨by omega, by omega, ?_⟩
    have h4 : mnt u * mnt v / W64 * W64 + mnt u * mnt v % W64 = mnt u * mnt v := by rw [Nat.mul_comm]; exact Nat.div_add_mod _ _
    rw [h4, show ((ng u != ng v) && !(mnt u * mnt v == 0)) = (ng u != ng v) by rw [show (mnt u * mnt v == 0) = false by rw [beq_eq_false_iff_ne]; exact fun e0 => by rcases Nat.mul_eq_zero.1 e0 with h5 | h5; exact h1 h5; exact h2 h5]; simp]

end Go.Proofs.Yteikihidblcljaa

/- The walk of the reference's Add (tenorref3). -/
namespace Go.Proofs.Yteikihidblcljaa
open Go.RowKit
set_option linter.unusedSimpArgs false
set_option linter.unusedVariables false

/-- A block that holds the reference's accumulator. -/
def Box3 (w : World) (b : Nat) (st : Int) (s : Bool) (a : Option Addr) (n c : Nat) (e : Int) : Prop := w.heap[b]? = some (.cells #[.int .i64 st, .bool s, .slice a n c, .int .i64 e] 37 (0, 0))
theorem Box3.cell {w : World} {b : Nat} {st : Int} {s : Bool} {a : Option Addr} {n c : Nat} {e : Int} (h : Box3 w b st s a n c e) :
    w.cell? ⟨b, 0, none⟩ = some (.int .i64 st) ∧ w.cell? ⟨b, 1, none⟩ = some (.bool s) ∧ w.cell? ⟨b, 2, none⟩ = some (.slice a n c) ∧ w.cell? ⟨b, 3, none⟩ = some (.int .i64 e) := by
  unfold Box3 at h
  refine ⟨?_, ?_, ?_, ?_⟩ <;> simp [World.cell?, h]
theorem Box3.frozen {w : World} {b : Nat} {st : Int} {s : Bool} {a : Option Addr} {n c : Nat} {e : Int} (h : Box3 w b st s a n c e) (o : Nat) : w.frozen? ⟨b, o, none⟩ = false := by
  unfold Box3 at h
  simp [World.frozen?, h]
theorem Box3.lt {w : World} {b : Nat} {st : Int} {s : Bool} {a : Option Addr} {n c : Nat} {e : Int} (h : Box3 w b st s a n c e) : b < w.heap.size := by
  unfold Box3 at h
  exact (Array.getElem?_eq_some_iff.1 h).1
theorem Box3.below {w w' : World} {b : Nat} {st : Int} {s : Bool} {a : Option Addr} {n c : Nat} {e : Int} (h : Box3 w b st s a n c e) (hb : Below w.heap.size w w') : Box3 w' b st s a n c e := (hb.block b h.lt).trans h
theorem Box3.no {w : World} {b : Nat} {st : Int} {s : Bool} {a : Option Addr} {n c : Nat} {e : Int} (h : Box3 w b st s a n c e) (o : Nat) (x : Int) : w.cell? ⟨b, o, none⟩ ≠ some (.int .u64 x) := by
  unfold Box3 at h
  intro hc
  simp [World.cell?, h] at hc
  match o, hc with
  | 0, hc => simp at hc
  | 1, hc => simp at hc
  | 2, hc => simp at hc
  | 3, hc => simp at hc
  | o + 4, hc => simp at hc
theorem Dgs.apart {w w' : World} {a : Option Addr} {x b : Nat} (h : Dgs w a x) (hn : ∀ (o : Nat) (y : Int), w.cell? ⟨b, o, none⟩ ≠ Option.some (Value.int .u64 y)) (ho : Only b w w') : Dgs w' a x :=
  ⟨h.nil, fun b1 o v e i hi => ⟨(h.cell b1 o v e i hi).1, by
    have hc := (h.cell b1 o v e i hi).2
    have hne : b1 ≠ b := fun e1 => hn _ _ (by rw [← e1]; exact hc)
    have := ho.block b1 (World.block_lt_of_cell? _ _ hc) hne
    rw [World.cell?_of_block (w := w) (w' := w') (a := ⟨b1, o + i, none⟩) this, hc]⟩⟩

theorem Dgs.stored4 {W : World} {a' : Option Addr} {x b : Nat} {st : Int} {s : Bool} {a : Option Addr} {n c : Nat} {e : Int} (h : Dgs W a' x) (hb : Box3 W b st s a n c e) (v0 v1 v2 v3 : Value) :
    Dgs ((((W.setCell ⟨b, 0, none⟩ v0).setCell ⟨b, 1, none⟩ v1).setCell ⟨b, 2, none⟩ v2).setCell ⟨b, 3, none⟩ v3) a' x :=
  h.apart hb.no (((((Only.refl b W).setCell 0 v0).setCell 1 v1).setCell 2 v2).setCell 3 v3)
theorem inf_of (u : Nat) (hn : nn u = false) (hf : fin u = false) : inf u = true := by
  unfold nn INF at hn; unfold fin INF at hf; unfold inf
  simp at hn hf ⊢; omega
theorem two_boxes (w : World) (st : Int) (s : Bool) (a : Option Addr) (n c : Nat) (e : Int) :
    ∃ W, ((w.alloc (.cells #[.int .i64 st, .bool s, .slice a n c, .int .i64 e] 37)).alloc (.cells #[.int .i64 0, .bool false, .slice none 0 0, .int .i64 0] 37)) = W ∧
      Box3 W w.heap.size st s a n c e ∧ Box3 W (w.heap.size + 1) 0 false none 0 0 0 ∧ Below w.heap.size w W ∧ W.heap.size = w.heap.size + 2 := by
  refine ⟨_, rfl, ?_, ?_, (((Below.refl _ _).alloc (Nat.le_refl _) _).alloc (World.alloc_size_le _ _) _), by go_simp⟩
  · unfold Box3 World.alloc; simp [Array.getElem?_push]
  · unfold Box3 World.alloc; simp [Array.getElem?_push, Array.getElem_push]

set_option maxHeartbeats 1600000 in
theorem r3add_nan (up dn : Bool) (s : Bool) (a : Option Addr) (n c : Nat) (e : Int) (u : Nat) (hu : F64 u) (hn : nn u = true) (w : World) :
    Calls Try.prog 11 #[.agg #[.int .i64 (stOf up dn), .bool s, .slice a n c, .int .i64 e], .int .u64 u] w fun en w' =>
      en = .returned (.agg #[.int .i64 3, .bool false, .slice none 0 0, .int .i64 0]) ∧ Below w.heap.size w w' := by
  have HN := Hd.mk (rIsNaN_any u hu)
  rw [hn] at HN
  generalize stOf up dn = st
  have HB : Hd (∀ (o : Obj) (o' : Obj), Below w.heap.size w ((w.alloc o).alloc o')) := ⟨fun o o' => (((Below.refl _ _).alloc (Nat.le_refl _) o).alloc (World.alloc_size_le _ _) o')⟩
  clear hn hu
  go_enter Try.func11, Try.ntmps11
  go_wp2_with fail
  refine (HN.out _).mono ?_; rintro e w' ⟨rfl, rfl⟩
  go_wp2_with fail
  exact bodyPost_ret (v := .agg #[.int .i64 3, .bool false, .slice none 0 0, .int .i64 0]) (by simp [results, Try.results11, go_sem]) rfl ⟨rfl, HB.out _ _⟩

set_option maxHeartbeats 1600000 in
set_option maxRecDepth 100000 in
theorem r3add_inf (up dn : Bool) (s : Bool) (a : Option Addr) (n c : Nat) (e : Int) (u : Nat) (hu : F64 u) (hn : nn u = false) (hf : fin u = false) (w : World) :
    Calls Try.prog 11 #[.agg #[.int .i64 (stOf up dn), .bool s, .slice a n c, .int .i64 e], .int .u64 u] w fun en w' =>
      en = .returned (.agg #[.int .i64 (stOf (up || !ng u) (dn || ng u)), .bool false, .slice none 0 0, .int .i64 0]) ∧ Below w.heap.size w w' := by
  have HN := Hd.mk (rIsNaN_any u hu)
  rw [hn] at HN
  have HI := Hd.mk (rIsInf_any u hu)
  rw [inf_of u hn hf] at HI
  have HNg := Hd.mk (rNegative_any u)
  have HF := Hd.mk (r3inf_any up dn (ng u) s a n c e)
  generalize stOf (up || !ng u) (dn || ng u) = st' at *
  generalize stOf up dn = st at *
  have HB : Hd (∀ (o : Obj) (o' : Obj), Below w.heap.size w ((w.alloc o).alloc o')) := ⟨fun o o' => (((Below.refl _ _).alloc (Nat.le_refl _) o).alloc (World.alloc_size_le _ _) o')⟩
  clear hn hu hf
  generalize ng u = neg at *
  obtain ⟨W, hW, b1, b2, b3, b4⟩ := two_boxes w st s a n c e
  have c1 := b1.cell
  have c2 := b2.cell
  have B1 := Hd.mk b1
  have B2 := Hd.mk b2
  have B3 := Hd.mk b3
  obtain ⟨x0, x1, x2, x3⟩ := c1
  obtain ⟨y0, y1, y2, y3⟩ := c2
  have HS := Hd.mk b4
  clear b1 b2 b3 b4 HB
  have HW := Hd.mk hW
  go_enter Try.func11, Try.ntmps11
  go_upto_region 1 with fail
  clear hW HW
  go_wp2_with fail
  refine (HN.out _).mono ?_; rintro e w' ⟨rfl, rfl⟩
  go_wp2_with fail
  refine (HI.out _).mono ?_; rintro e w' ⟨rfl, rfl⟩
  go_wp2_with fail
  refine wp_region_still_tail 3 (by kernel_rfl) (by kernel_rfl) ?_
  simp only [List.take_succ_cons, List.take_zero, List.drop_succ_cons, List.drop_zero]
  change wpStill _ _ W.drew _ _ _
  still_step
  still_step
  still_call ((HNg.out _).mono fun _ _ h => ⟨h.1, h.2.symm⟩)
  refine wpStill_nil ?_
  change wpList _ _ _ _ _ W.drew
  go_wp2_with fail
  refine (HF.out _).mono ?_; rintro en w5 ⟨rfl, hb⟩
  have C2 := Hd.mk ((show Box3 W.drew _ _ _ _ _ _ _ from B2.out).below hb)
  have D := Hd.mk (B3.out.drew.trans (hb.mono B3.out.size))
  obtain ⟨z0, z1, z2, z3⟩ := C2.out.cell
  have fz := C2.out.frozen
  clear hb x0 x1 x2 x3 y0 y1 y2 y3
  go_wp2_with fail
  exact bodyPost_ret (v := .agg #[.int .i64 st', .bool false, .slice none 0 0, .int .i64 0]) (by simp [results, Try.results11, go_sem, z0, z1, z2, z3]) rfl ⟨rfl, by (repeat (refine Below.setCell ?_ (by simp) _)); exact D.out⟩

set_option maxHeartbeats 1600000 in
set_option maxRecDepth 100000 in
theorem r3add_stays (st : Int) (hst : st ≠ 0) (s : Bool) (a : Option Addr) (d c : Nat) (e : Int) (u : Nat) (hu : F64 u) (hn : nn u = false) (hf : inf u = false) (w : World) (hd : Dgs w a d) :
    Calls Try.prog 11 #[.agg #[.int .i64 st, .bool s, .slice a (nd d) c, .int .i64 e], .int .u64 u] w fun en w' =>
      en = .returned (.agg #[.int .i64 st, .bool s, .slice a (nd d) c, .int .i64 e]) ∧ Dgs w' a d ∧ Below w.heap.size w w' := by
  have HN := Hd.mk (rIsNaN_any u hu)
  rw [hn] at HN
  have HI := Hd.mk (rIsInf_any u hu)
  rw [hf] at HI
  have hs0 : (st != 0) = true := by rw [bne_iff_ne]; exact hst
  have HD := Hd.mk hd
  obtain ⟨n, hnd⟩ : ∃ n, nd d = n := ⟨_, rfl⟩
  rw [hnd]
  clear hn hu hf hst hd hnd
  obtain ⟨W, hW, b1, b2, b3, b4⟩ := two_boxes w st s a n c e
  have c1 := b1.cell
  have c2 := b2.cell
  have B1 := Hd.mk b1
  have B2 := Hd.mk b2
  have B3 := Hd.mk b3
  obtain ⟨x0, x1, x2, x3⟩ := c1
  obtain ⟨y0, y1, y2, y3⟩ := c2
  have HS := Hd.mk b4
  clear b1 b2 b3 b4
  have HW := Hd.mk hW
  go_enter Try.func11, Try.ntmps11
  go_upto_region 1 with fail
  clear hW HW
  go_wp2_with fail
  refine (HN.out _).mono ?_; rintro en w' ⟨rfl, rfl⟩
  go_wp2_with fail
  refine (HI.out _).mono ?_; rintro en w' ⟨rfl, rfl⟩
  have fz := B2.out.frozen
  go_wp2_with fail
  have HG : Hd (Dgs W a d) := ⟨HD.out.below B3.out⟩
  refine bodyPost_ret (v := .agg #[.int .i64 st, .bool s, .slice a n c, .int .i64 e]) (by simp [results, Try.results11, go_sem, y0, y1, y2, y3]) rfl ⟨rfl, HG.out.stored4 B2.out _ _ _ _, ?_⟩
  repeat (refine Below.setCell ?_ (by simp) _)
  exact B3.out

set_option maxHeartbeats 1600000 in
set_option maxRecDepth 100000 in
/-- A number is added where no infinity came. -/
theorem r3add_num (s : Bool) (a : Option Addr) (d c : Nat) (e : Int) (u : Nat) (hu : F64 u) (hf : fin u = true) (w : World) (hd : Dgs w a d) (hs : nd d ≤ 140) (l : -2148 ≤ e) (r : e ≤ 2000)
    (z : Int) (hv : sg s (d * 2 ^ (e + 2148).toNat) = z) (hz : AccB (z + aZ u)) :
    Calls Try.prog 11 #[.agg #[.int .i64 0, .bool s, .slice a (nd d) c, .int .i64 e], .int .u64 u] w (R3Ret (z + aZ u) false false w) := by
  have HN := Hd.mk (rIsNaN_any u hu)
  rw [nn_fin u hf] at HN
  have HI := Hd.mk (rIsInf_any u hu)
  rw [show inf u = false by unfold fin INF at hf; unfold inf; simp at hf ⊢; omega] at HI
  have HO := Hd.mk (of_any u hu)
  obtain ⟨v1, v2, v3⟩ := of_val u hu hf
  have hm : nd (mnt u) ≤ 10000 := Nat.le_trans (nd_le (n := 2) (by have := mnt_lt u; rw [BB_pow]; exact Nat.lt_trans this (by decide))) (by decide)
  generalize (ng u && !(mnt u == 0)) = s' at *
  generalize (if mnt u = 0 then 0 else exq u) = e' at *
  generalize mnt u = M at *
  have HPl := Hd.mk fun a' c' w1 h h' => plus_any s a d c e s' a' M c' e' w1 h h' (by omega) hm (by omega) (by omega)
  obtain ⟨E, hE⟩ : ∃ E, plE d e M e' = E := ⟨_, rfl⟩
  obtain ⟨A, hA⟩ : ∃ A, lowN d e E = A := ⟨_, rfl⟩
  obtain ⟨B, hB⟩ : ∃ B, lowN M e' E = B := ⟨_, rfl⟩
  obtain ⟨p1, p2, p3⟩ := plus_val s d e s' M e' l v1 r (by omega) E A B hE hA hB
  rw [hE, hA, hB] at HPl
  rw [hv, v3] at p3
  generalize sumS s A s' B = S at *
  generalize sumD s A s' B = K at *
  generalize sumE s A s' B E = E4 at *
  have hK : nd K ≤ 140 := by
    refine AccB_nd hz ?_
    rw [← p3, sg_natAbs]
    exact Nat.le_mul_of_pos_right _ (Nat.pow_pos (by decide))
  have HV := Hd.mk p3
  have HD := Hd.mk hd
  obtain ⟨n, hnd⟩ : ∃ n, nd d = n := ⟨_, rfl⟩
  rw [hnd] at HPl ⊢
  obtain ⟨st, hst⟩ : ∃ st : Int, st = 0 := ⟨_, rfl⟩
  rw [← hst]
  have hs0 : (st != 0) = false := by rw [hst]; rfl
  have HK := Hd.mk (And.intro hK (And.intro p1 p2))
  clear hu hf hd hs l r hv hz v1 v2 v3 hm hE hA hB p1 p2 p3 hK hnd hst
  obtain ⟨W, hW, b1, b2, b3, b4⟩ := two_boxes w st s a n c e
  have c1 := b1.cell
  have c2 := b2.cell
  have B1 := Hd.mk b1
  have B2 := Hd.mk b2
  have B3 := Hd.mk b3
  obtain ⟨x0, x1, x2, x3⟩ := c1
  obtain ⟨y0, y1, y2, y3⟩ := c2
  have HS := Hd.mk b4
  clear b1 b2 b3 b4
  have HW := Hd.mk hW
  go_enter Try.func11, Try.ntmps11
  go_upto_region 1 with fail
  clear hW HW
  go_wp2_with fail
  refine (HN.out _).mono ?_; rintro en w' ⟨rfl, rfl⟩
  go_wp2_with fail
  refine (HI.out _).mono ?_; rintro en w' ⟨rfl, rfl⟩
  go_wp2_with fail
  have fz := B2.out.frozen
  have HG : Hd (Dgs W a d) := ⟨HD.out.below B3.out⟩
  have GD : Hd (Dgs W.drew a d) := ⟨HG.out.keep fun _ _ _ h => h⟩
  go_region_held3 (fun w' => w'.cell? ⟨w.heap.size, 1, none⟩ = some (.bool s) ∧ w'.cell? ⟨w.heap.size, 2, none⟩ = some (.slice a n c) ∧ w'.cell? ⟨w.heap.size, 3, none⟩ = some (.int .i64 e)) (first | exact ⟨x1, x2, x3⟩ | exact ⟨d1, d2, d3⟩ | exact ⟨g1, g2, g3⟩ | (refine ⟨?_, ?_, ?_⟩ <;> go_simp)) (
    first
    | (
    go_at_call 61
    refine (HO.out _).mono ?_
    rintro en w3 ⟨a2, k2, rfl, hd2, hb2⟩
    have C1 := Hd.mk ((show Box3 W.drew _ _ _ _ _ _ _ from B1.out).below hb2)
    have C2 := Hd.mk ((show Box3 W.drew _ _ _ _ _ _ _ from B2.out).below hb2)
    have D1 := Hd.mk (GD.out.below hb2)
    have D2 := Hd.mk hd2
    have D3 := Hd.mk (B3.out.drew.trans (hb2.mono B3.out.size))
    have d1 := C1.out.cell.2.1
    have d2 := C1.out.cell.2.2.1
    have d3 := C1.out.cell.2.2.2
    clear hd2 hb2)
    | (
    go_at_call 60
    refine (HPl.out _ _ _ D1.out D2.out).mono ?_
    rintro en w4 ⟨a4, k4, rfl, hd4, hb4⟩
    have F1 := Hd.mk (C1.out.below hb4)
    have F2 := Hd.mk (C2.out.below hb4)
    have F3 := Hd.mk hd4
    have F4 := Hd.mk (D3.out.trans (hb4.mono D3.out.size))
    have g1 := F1.out.cell.2.1
    have g2 := F1.out.cell.2.2.1
    have g3 := F1.out.cell.2.2.2
    have r0 := F2.out.cell.1
    have r1 := F2.out.cell.2.1
    have r2 := F2.out.cell.2.2.1
    have r3 := F2.out.cell.2.2.2
    have fz4 := F2.out.frozen
    clear hd4 hb4))
  go_wp2_with fail
  have HR : Hd (∀ w5, Dgs w5 a4 K → R3 w5 S a4 K E4 (z + aZ u) false false) := ⟨fun w5 h => ⟨h, HK.out.1, HK.out.2.1, HK.out.2.2, fun _ _ => HV.out⟩⟩
  refine bodyPost_ret (v := .agg #[.int .i64 0, .bool S, .slice a4 (nd K) k4, .int .i64 E4]) (by simp [results, Try.results11, go_sem, r0, r1, r2, r3]) rfl ⟨S, a4, K, k4, E4, rfl, HR.out _ (F3.out.stored4 F2.out _ _ _ _), ?_⟩
  repeat (refine Below.setCell ?_ (by simp) _)
  exact F4.out

end Go.Proofs.Yteikihidblcljaa

/- The reference's Add, for every state; its Value. -/
namespace Go.Proofs.Yteikihidblcljaa
open Go.RowKit
set_option linter.unusedSimpArgs false
set_option linter.unusedVariables false

theorem r3add_any (up dn : Bool) (s : Bool) (a : Option Addr) (d c : Nat) (e : Int) (z : Int) (u : Nat) (hu : F64 u) (w : World) (h : R3 w s a d e z up dn) (hz : AccB (z + aZ u)) :
    Calls Try.prog 11 #[.agg #[.int .i64 (stOf up dn), .bool s, .slice a (nd d) c, .int .i64 e], .int .u64 u] w (R3Ret (z + aZ u) (up || upB u) (dn || dnB u) w) := by
  cases hn : nn u
  · cases hf : fin u
    · have h1 : upB u = !ng u := by unfold upB; rw [hf, hn]; simp
      have h2 : dnB u = ng u := by unfold dnB; rw [hf, hn]; simp
      rw [h1, h2]
      refine (r3add_inf up dn s a (nd d) c e u hu hn hf w).mono ?_
      rintro en w' ⟨rfl, hb⟩
      exact ⟨false, none, 0, 0, 0, rfl, R3.zero _ _ _ _ (fun e1 e2 => by cases hg : ng u <;> rw [hg] at e1 e2 <;> simp at e1 e2), hb⟩
    · have h1 := flagB_fin u hf
      rw [h1.1, h1.2, Bool.or_false, Bool.or_false]
      by_cases h0 : up = false ∧ dn = false
      · obtain ⟨rfl, rfl⟩ := h0
        exact r3add_num s a d c e u hu hf w h.dg h.sm h.lo h.hi z (h.val rfl rfl) hz
      · have hst : stOf up dn ≠ 0 := by cases up <;> cases dn <;> simp [stOf] at h0 ⊢
        refine (r3add_stays (stOf up dn) hst s a d c e u hu hn (by unfold fin INF at hf; unfold inf; simp at hf ⊢; omega) w h.dg).mono ?_
        rintro en w' ⟨rfl, hd, hb⟩
        exact ⟨s, a, d, c, e, rfl, ⟨hd, h.sm, h.lo, h.hi, fun e1 e2 => absurd ⟨e1, e2⟩ h0⟩, hb⟩
  · have hf : fin u = false := by cases h : fin u; rfl; rw [nn_fin u h] at hn; cases hn
    have h1 : upB u = true := by unfold upB; rw [hf, hn]; simp
    have h2 : dnB u = true := by unfold dnB; rw [hf, hn]; simp
    rw [h1, h2, Bool.or_true, Bool.or_true]
    refine (r3add_nan up dn s a (nd d) c e u hu hn w).mono ?_
    rintro en w' ⟨rfl, hb⟩
    exact ⟨false, none, 0, 0, 0, rfl, R3.zero _ _ _ _ (fun e1 _ => by cases e1), hb⟩

/-- The nearest word of a sum. -/
theorem near_val (s : Bool) (d : Nat) (e : Int) (z : Int) (l : -2148 ≤ e) (h : sg s (d * 2 ^ (e + 2148).toNat) = z) : nearM s d e false = overA z false false 1 := by
  unfold nearM overA nearZ
  simp only [Bool.false_and, Bool.false_eq_true, if_false, Nat.div_one, Nat.mod_one]
  rw [show nz 0 = false from rfl]
  have h1 : z.natAbs = d * 2 ^ (e + 2148).toNat := by rw [← h, sg_natAbs]
  by_cases h0 : d = 0
  · rw [if_pos h0]
    rw [h0, Nat.zero_mul] at h1
    have : z = 0 := by omega
    subst this
    rw [show (0 : Int).natAbs = 0 from rfl, rnd_zero _ (by decide)]
    rfl
  · rw [if_neg h0, h1]
    have h2 := rnd_scale d (e + 2148).toNat e h0
    rw [show e - ((e + 2148).toNat : Int) = -2148 by omega] at h2
    rw [h2]
    congr 1
    have hp := Nat.pow_pos (n := (e + 2148).toNat) (show 0 < 2 by decide)
    have : 0 < d * 2 ^ (e + 2148).toNat := Nat.mul_pos (by omega) hp
    rw [← h]
    generalize d * 2 ^ (e + 2148).toNat = p at *
    unfold sg
    cases s
    · simp
    · simp; omega

set_option maxHeartbeats 1600000 in
theorem r3over1_any (up dn : Bool) (s : Bool) (a : Option Addr) (d c : Nat) (e : Int) (z : Int) (w : World) (h : R3 w s a d e z up dn) :
    Calls Try.prog 22 #[.agg #[.int .i64 (stOf up dn), .bool s, .slice a (nd d) c, .int .i64 e], .int .i64 1] w (URet (overA z up dn 1) w) := by
  have HB : Hd (∀ (o : Obj), Below w.heap.size w (w.alloc o)) := ⟨fun o => ((Below.refl _ _).alloc (Nat.le_refl _) o)⟩
  by_cases h0 : up = false ∧ dn = false
  · obtain ⟨rfl, rfl⟩ := h0
    rw [← near_val s d e z h.lo (h.val rfl rfl)]
    have HN : Hd (∀ o, Calls Try.prog 77 #[.agg #[.bool s, .slice a (nd d) c, .int .i64 e]] (w.alloc o) (URet (nearM s d e false) (w.alloc o))) := ⟨fun o => near_any s a d c e (w.alloc o) (h.dg.below ((Below.refl _ _).alloc (Nat.le_refl _) o)) (by have := h.sm; omega) (by have := h.lo; have := h.hi; omega)⟩
    rw [show stOf false false = 0 from rfl]
    clear h
    generalize nearM s d e false = v at *
    generalize nd d = n at *
    go_enter Try.func22, Try.ntmps22
    go_wp2_with fail
    refine (HN.out _).mono ?_; rintro en w2 ⟨rfl, hb⟩
    have B := Hd.mk ((HB.out _).trans (hb.mono (World.alloc_size_le _ _)))
    clear hb
    go_wp2_with fail
    go_ret
    exact ⟨rfl, B.out⟩
  · clear h
    generalize nd d = n at *
    cases up <;> cases dn
    · exact absurd ⟨rfl, rfl⟩ h0
    · rw [show stOf false true = 2 from rfl, show overA z false true 1 = 18442240474082181120 from rfl]
      clear h0
      go_enter Try.func22, Try.ntmps22
      go_wp2_with fail
      refine (rFlip_any _ ⟨by decide⟩ _).mono ?_; rintro en w' ⟨rfl, rfl⟩
      rw [show flip64 9218868437227405312 = 18442240474082181120 by decide +kernel]
      go_wp2_with fail
      go_ret
      exact ⟨rfl, HB.out _⟩
    · rw [show stOf true false = 1 from rfl, show overA z true false 1 = 9218868437227405312 from rfl]
      clear h0
      go_enter Try.func22, Try.ntmps22
      go_wp2_with fail
      go_ret
      exact ⟨rfl, HB.out _⟩
    · rw [show stOf true true = 3 from rfl, show overA z true true 1 = 9221120237041090561 from rfl]
      clear h0
      go_enter Try.func22, Try.ntmps22
      go_wp2_with fail
      go_ret
      exact ⟨rfl, HB.out _⟩

set_option maxHeartbeats 1600000 in
theorem r3value_any (up dn : Bool) (s : Bool) (a : Option Addr) (d c : Nat) (e : Int) (z : Int) (w : World) (h : R3 w s a d e z up dn) :
    Calls Try.prog 28 #[.agg #[.int .i64 (stOf up dn), .bool s, .slice a (nd d) c, .int .i64 e]] w (URet (overA z up dn 1) w) := by
  have HN : Hd (∀ o, Calls Try.prog 22 #[.agg #[.int .i64 (stOf up dn), .bool s, .slice a (nd d) c, .int .i64 e], .int .i64 1] (w.alloc o) (URet (overA z up dn 1) (w.alloc o))) := ⟨fun o => r3over1_any up dn s a d c e z _ (h.below ((Below.refl _ _).alloc (Nat.le_refl _) o))⟩
  have HB : Hd (∀ (o : Obj), Below w.heap.size w (w.alloc o)) := ⟨fun o => ((Below.refl _ _).alloc (Nat.le_refl _) o)⟩
  clear h
  generalize overA z up dn 1 = v at *
  generalize nd d = n at *
  generalize stOf up dn = st at *
  go_enter Try.func28, Try.ntmps28
  go_wp2_with fail
  refine (HN.out _).mono ?_; rintro en w2 ⟨rfl, hb⟩
  have B := Hd.mk ((HB.out _).trans (hb.mono (World.alloc_size_le _ _)))
  clear hb
  go_wp2_with fail
  go_ret
  exact ⟨rfl, B.out⟩

end Go.Proofs.Yteikihidblcljaa

/- Plain: a sum over a whole number, by the reference's quotient and by the program's. -/
namespace Go.Proofs.Yteikihidblcljaa
open Go.RowKit
set_option linter.unusedSimpArgs false
set_option linter.unusedVariables false

/-- Further digits make nothing, where all of them are dropped anyway. -/
theorem rnd_sticky0 (d' j : Nat) (e : Int) (more' more : Bool) (he : e ≤ -1200) (hm : more = true ↔ (d' % 2 ^ j ≠ 0 ∨ more' = true)) : rnd d' (e - j) more' = rnd (d' / 2 ^ j) e more := by
  have hl : lsb d' (e - j) = lsb (d' / 2 ^ j) e := by
    unfold lsb
    by_cases h0 : d' / 2 ^ j = 0
    · have h1 : d' < 2 ^ j := (Nat.div_eq_zero_iff.1 h0).resolve_left (by have := Nat.pow_pos (n := j) (show 0 < 2 by decide); omega)
      have h2 := bl_le h1
      rw [h0, show bl 0 = 0 from rfl]
      omega
    · rw [bl_div h0]; congr 1; omega
  have hL : e < lsb (d' / 2 ^ j) e := by unfold lsb; omega
  unfold rnd
  rw [hl]
  congr 1
  generalize lsb (d' / 2 ^ j) e = L at *
  rw [if_neg (by omega), if_neg (by omega), show (L - (e - j)).toNat = (L - e).toNat + j by omega]
  exact rh_scale d' j (L - e).toNat more' more (by omega) hm

theorem ov_bl (d n : Nat) (h : d ≠ 0) (hn : 0 < n) : 60 ≤ bl (d * 2 ^ ovK d n / n) := by
  have h1 := le_of_bl (x := d) (n := bl d - 1) (by have := bl_pos h; omega)
  have h2 := bl_lt n
  have h3 := bl_pos h
  have hk : bl d - 1 + ovK d n = bl n + (bl d - 1 + ovK d n - bl n) := by unfold ovK; omega
  have h4 : 2 ^ 60 * n ≤ d * 2 ^ ovK d n := by
    calc 2 ^ 60 * n ≤ 2 ^ (bl d - 1 + ovK d n - bl n) * n := Nat.mul_le_mul_right _ (Nat.pow_le_pow_right (by decide) (by unfold ovK; omega))
      _ ≤ 2 ^ (bl d - 1 + ovK d n - bl n) * 2 ^ bl n := Nat.mul_le_mul_left _ (Nat.le_of_lt h2)
      _ = 2 ^ (bl d - 1) * 2 ^ ovK d n := by rw [← Nat.pow_add, ← Nat.pow_add]; congr 1; omega
      _ ≤ d * 2 ^ ovK d n := Nat.mul_le_mul_right _ h1
  have h5 : 2 ^ 60 ≤ d * 2 ^ ovK d n / n := (Nat.le_div_iff_mul_le hn).2 h4
  refine Decidable.byContradiction fun hc => ?_
  have h6 := bl_lt (d * 2 ^ ovK d n / n)
  have h7 : 2 ^ bl (d * 2 ^ ovK d n / n) ≤ 2 ^ 60 := Nat.pow_le_pow_right (by decide) (by omega)
  omega

/-- The nearest word of a sum over n. -/
theorem over_val (s : Bool) (d : Nat) (e : Int) (z : Int) (n : Nat) (hn : 0 < n) (l : -2148 ≤ e) (h : sg s (d * 2 ^ (e + 2148).toNat) = z) : overN s d e n 0 = overA z false false n := by
  unfold overN overA nearZ
  simp only [Bool.false_and, Bool.false_eq_true, if_false]
  have h1 : z.natAbs = d * 2 ^ (e + 2148).toNat := by rw [← h, sg_natAbs]
  by_cases h0 : d = 0
  · rw [if_pos h0]
    rw [h0, Nat.zero_mul] at h1
    have : z = 0 := by omega
    subst this
    rw [show (0 : Int).natAbs = 0 from rfl, Nat.zero_div, Nat.zero_mod, show nz 0 = false from rfl, rnd_zero _ (by decide)]
    rfl
  · rw [if_neg h0, h1]
    have hb := ov_bl d n h0 hn
    have hs : decide (z < 0) = s := by
      have hp := Nat.pow_pos (n := (e + 2148).toNat) (show 0 < 2 by decide)
      have : 0 < d * 2 ^ (e + 2148).toNat := Nat.mul_pos (by omega) hp
      rw [← h]
      generalize d * 2 ^ (e + 2148).toNat = p at *
      unfold sg
      cases s
      · simp
      · simp; omega
    rw [hs]
    have hq : d * 2 ^ ovK d n / n ≠ 0 := by intro hc; rw [hc] at hb; exact absurd hb (by decide)
    unfold nearM
    rw [if_neg hq]
    refine congrArg (madeN s) ?_
    generalize ovK d n = k at *
    obtain ⟨m, hm⟩ : ∃ m : Nat, (e + 2148).toNat = m := ⟨_, rfl⟩
    rw [hm]
    have he : e = (m : Int) - 2148 := by omega
    rcases Nat.le_total k m with hkm | hkm
    · obtain ⟨j, rfl⟩ : ∃ j, m = k + j := ⟨m - k, by omega⟩
      have e1 : d * 2 ^ (k + j) = d * 2 ^ k * 2 ^ j := by rw [Nat.pow_add, Nat.mul_assoc]
      rw [e1]
      obtain ⟨q1, q2⟩ := quot_more (d * 2 ^ k) n j hn
      have := rnd_sticky (d * 2 ^ k * 2 ^ j / n) j (e - k) (nz (d * 2 ^ k * 2 ^ j % n)) (nz (d * 2 ^ k % n)) (by rw [q1]; omega) (by rw [nz_iff, nz_iff]; exact q2.symm)
      rw [q1] at this
      rw [Int.sub_zero, ← this]
      exact congrArg (fun y => rnd (d * 2 ^ k * 2 ^ j / n) y (nz (d * 2 ^ k * 2 ^ j % n))) (by omega)
    · obtain ⟨j, rfl⟩ : ∃ j, k = m + j := ⟨k - m, by omega⟩
      have e1 : d * 2 ^ (m + j) = d * 2 ^ m * 2 ^ j := by rw [Nat.pow_add, Nat.mul_assoc]
      rw [e1]
      obtain ⟨q1, q2⟩ := quot_more (d * 2 ^ m) n j hn
      have := rnd_sticky0 (d * 2 ^ m * 2 ^ j / n) j (-2148) (nz (d * 2 ^ m * 2 ^ j % n)) (nz (d * 2 ^ m % n)) (by decide) (by rw [nz_iff, nz_iff]; exact q2.symm)
      rw [q1] at this
      rw [← this]
      exact congrArg (fun y => rnd (d * 2 ^ m * 2 ^ j / n) y (nz (d * 2 ^ m * 2 ^ j % n))) (by omega)

end Go.Proofs.Yteikihidblcljaa

/- The reference's Sum. -/
namespace Go.Proofs.Yteikihidblcljaa
open Go.RowKit
set_option linter.unusedSimpArgs false
set_option linter.unusedVariables false

theorem set_row {w : World} {b : Nat} {cs : Array Value} {t : TypeId} {r : Nat × Nat} (h : w.heap[b]? = some (.cells cs t r)) (i : Nat) (v : Value) : (w.setCell ⟨b, i, none⟩ v).heap[b]? = some (.cells (cs.setIfInBounds i v) t r) := by
  unfold World.setCell
  simp only [Array.getElem?_modify, h]
  simp
theorem Box3.stored {w : World} {b : Nat} {st : Int} {s : Bool} {a : Option Addr} {n c : Nat} {e : Int} (h : Box3 w b st s a n c e) (st' : Int) (s' : Bool) (a' : Option Addr) (n' c' : Nat) (e' : Int) :
    Box3 ((((w.setCell ⟨b, 0, none⟩ (.int .i64 st')).setCell ⟨b, 1, none⟩ (.bool s')).setCell ⟨b, 2, none⟩ (.slice a' n' c')).setCell ⟨b, 3, none⟩ (.int .i64 e')) b st' s' a' n' c' e' := by
  unfold Box3 at *
  have := set_row (set_row (set_row (set_row h 0 (.int .i64 st')) 1 (.bool s')) 2 (.slice a' n' c')) 3 (.int .i64 e')
  rw [this]
  rfl
theorem zero_box (w : World) : ∃ W, (w.alloc (.cells #[.int .i64 0, .bool false, .slice none 0 0, .int .i64 0] 37)) = W ∧ Box3 W w.heap.size 0 false none 0 0 0 ∧ Below w.heap.size w W := by
  refine ⟨_, rfl, ?_, ((Below.refl _ _).alloc (Nat.le_refl _) _)⟩
  unfold Box3 World.alloc; simp [Array.getElem?_push]

/-- The box holds the accumulator of a sum. -/
structure In3 (w : World) (b : Nat) (z : Int) (up dn : Bool) (st : Int) (s : Bool) (a : Option Addr) (d c : Nat) (e : Int) : Prop where
  box : Box3 w b st s a (nd d) c e
  st : st = stOf up dn
  r3 : R3 w s a d e z up dn
theorem In3.below {w w' : World} {b : Nat} {z : Int} {up dn : Bool} {st : Int} {s : Bool} {a : Option Addr} {d c : Nat} {e : Int} (h : In3 w b z up dn st s a d c e) (hb : Below w.heap.size w w') : In3 w' b z up dn st s a d c e := ⟨h.box.below hb, h.st, h.r3.below hb⟩
theorem In3.store {w : World} {b : Nat} {st : Int} {s : Bool} {a : Option Addr} {n c : Nat} {e : Int} (h : Box3 w b st s a n c e) {z : Int} {up dn : Bool} {s' : Bool} {a' : Option Addr} {d' : Nat} {e' : Int} (h' : R3 w s' a' d' e' z up dn) (c' : Nat) :
    In3 ((((w.setCell ⟨b, 0, none⟩ (.int .i64 (stOf up dn))).setCell ⟨b, 1, none⟩ (.bool s')).setCell ⟨b, 2, none⟩ (.slice a' (nd d') c')).setCell ⟨b, 3, none⟩ (.int .i64 e')) b z up dn (stOf up dn) s' a' d' c' e' :=
  ⟨h.stored _ _ _ _ _ _, rfl, ⟨h'.dg.stored4 h _ _ _ _, h'.sm, h'.lo, h'.hi, h'.val⟩⟩

end Go.Proofs.Yteikihidblcljaa

/- The reference's Prod (tenorref3). -/
namespace Go.Proofs.Yteikihidblcljaa
open Go.RowKit
set_option linter.unusedSimpArgs false
set_option linter.unusedVariables false

theorem set4_other (w : World) (v0 v1 v2 v3 : Value) {b r : Nat} (hne : b ≠ r) (o : Nat) :
    ((((w.setCell ⟨r, 0, none⟩ v0).setCell ⟨r, 1, none⟩ v1).setCell ⟨r, 2, none⟩ v2).setCell ⟨r, 3, none⟩ v3).cell? ⟨b, o, none⟩ = w.cell? ⟨b, o, none⟩ := by
  refine World.cell?_of_block (w := w) (a := ⟨b, o, none⟩) ?_
  rw [Below.heap_setCell _ _ _ _ hne, Below.heap_setCell _ _ _ _ hne, Below.heap_setCell _ _ _ _ hne, Below.heap_setCell _ _ _ _ hne]

set_option maxHeartbeats 1600000 in
set_option maxRecDepth 100000 in
theorem r3prod_far (up dn : Bool) (s : Bool) (a : Option Addr) (d c : Nat) (e : Int) (z : Int) (u v : Nat) (hu : F64 u) (hv : F64 v) (hf : (fin u && fin v) = false) (w : World) (h : R3 w s a d e z up dn) (hz : AccB (z + aZ (fmul u v))) :
    Calls Try.prog 14 #[.agg #[.int .i64 (stOf up dn), .bool s, .slice a (nd d) c, .int .i64 e], .int .u64 u, .int .u64 v] w (R3Ret (z + aZ (fmul u v)) (up || upB (fmul u v)) (dn || dnB (fmul u v)) w) := by
  have HU := Hd.mk (rNumber_any u hu)
  have HV := Hd.mk (rNumber_any v hv)
  have HM := Hd.mk (rMul_any u v hu hv)
  have HA : Hd (∀ w', Below w.heap.size w w' → Calls Try.prog 11 #[.agg #[.int .i64 (stOf up dn), .bool s, .slice a (nd d) c, .int .i64 e], .int .u64 (fmul u v)] w' (R3Ret (z + aZ (fmul u v)) (up || upB (fmul u v)) (dn || dnB (fmul u v)) w')) := ⟨fun w' hb => r3add_any up dn s a d c e z _ (F64_fmul _ _) w' (h.below hb) hz⟩
  obtain ⟨st, hst⟩ : ∃ st, stOf up dn = st := ⟨_, rfl⟩
  obtain ⟨n, hn⟩ : ∃ n, nd d = n := ⟨_, rfl⟩
  rw [hst, hn] at HA ⊢
  clear h hz hu hv hst hn
  generalize z + aZ (fmul u v) = Z at *
  generalize (up || upB (fmul u v)) = U at *
  generalize (dn || dnB (fmul u v)) = D at *
  generalize fmul u v = m at *
  obtain ⟨W, hW, b1, b2, b3, b4⟩ := two_boxes w st s a n c e
  have c1 := b1.cell
  have c2 := b2.cell
  have B1 := Hd.mk b1
  have B2 := Hd.mk b2
  have B3 := Hd.mk b3
  obtain ⟨x0, x1, x2, x3⟩ := c1
  obtain ⟨y0, y1, y2, y3⟩ := c2
  have HS := Hd.mk b4
  clear b1 b2 b3 b4
  have HW := Hd.mk hW
  go_enter Try.func14, Try.ntmps14
  go_upto_region 1 with fail
  clear hW HW
  have fz := B2.out.frozen
  cases fu : fin u <;> cases fv : fin v <;> rw [fu, fv] at hf <;> rw [fu] at HU <;> rw [fv] at HV
  all_goals (first | (exact absurd hf (by decide)) | skip)
  all_goals
    clear hf fu fv
    first
    | (go_wp2_with fail
       refine (HU.out _).mono ?_; rintro en w' ⟨rfl, rfl⟩
       go_wp2_with fail
       refine (HV.out _).mono ?_; rintro en w' ⟨rfl, rfl⟩
       go_upto_region 2 with fail)
    | (go_wp2_with fail
       refine (HU.out _).mono ?_; rintro en w' ⟨rfl, rfl⟩
       go_upto_region 2 with fail)
    have v0 : W.drew.cell? ⟨w.heap.size, 0, none⟩ = some (.int .i64 st) := x0
    have v1 : W.drew.cell? ⟨w.heap.size, 1, none⟩ = some (.bool s) := x1
    have v2 : W.drew.cell? ⟨w.heap.size, 2, none⟩ = some (.slice a n c) := x2
    have v3 : W.drew.cell? ⟨w.heap.size, 3, none⟩ = some (.int .i64 e) := x3
    go_region_held3 (fun w' => w'.cell? ⟨w.heap.size, 0, none⟩ = some (.int .i64 st) ∧ w'.cell? ⟨w.heap.size, 1, none⟩ = some (.bool s) ∧ w'.cell? ⟨w.heap.size, 2, none⟩ = some (.slice a n c) ∧ w'.cell? ⟨w.heap.size, 3, none⟩ = some (.int .i64 e)) (first | with_reducible exact ⟨v0, v1, v2, v3⟩ | with_reducible exact ⟨d0, d1, d2, d3⟩ | with_reducible exact ⟨g0, g1, g2, g3⟩ | with_reducible exact ⟨q0, q1, q2, q3⟩ | (refine ⟨?_, ?_, ?_, ?_⟩ <;> go_simp)) (
      first
      | (
      go_at_call 65
      refine (HM.out _).mono ?_
      rintro en w3 ⟨rfl, hb2⟩
      have C1 := Hd.mk ((show Box3 W.drew _ _ _ _ _ _ _ from B1.out).below hb2)
      have C2 := Hd.mk ((show Box3 W.drew _ _ _ _ _ _ _ from B2.out).below hb2)
      have D3 := Hd.mk (B3.out.drew.trans (hb2.mono B3.out.size))
      have d0 := C1.out.cell.1
      have d1 := C1.out.cell.2.1
      have d2 := C1.out.cell.2.2.1
      have d3 := C1.out.cell.2.2.2
      clear hb2)
      | (
      go_at_call 11
      refine (HA.out _ D3.out).mono ?_
      rintro en w4 ⟨s4, a4, K, k4, e4, rfl, hr4, hb4⟩
      have F1 := Hd.mk (C1.out.below hb4)
      have F2 := Hd.mk (C2.out.below hb4)
      have F3 := Hd.mk hr4
      have F4 := Hd.mk (D3.out.trans (hb4.mono D3.out.size))
      have g0 := F1.out.cell.1
      have g1 := F1.out.cell.2.1
      have g2 := F1.out.cell.2.2.1
      have g3 := F1.out.cell.2.2.2
      have r0 := F2.out.cell.1
      have r1 := F2.out.cell.2.1
      have r2 := F2.out.cell.2.2.1
      have r3 := F2.out.cell.2.2.2
      have fz4 := F2.out.frozen
      have q0 := (set4_other w4 (.int .i64 (stOf U D)) (.bool s4) (.slice a4 (nd K) k4) (.int .i64 e4) (Nat.ne_of_lt (Nat.lt_succ_self w.heap.size)) 0).trans g0
      have q1 := (set4_other w4 (.int .i64 (stOf U D)) (.bool s4) (.slice a4 (nd K) k4) (.int .i64 e4) (Nat.ne_of_lt (Nat.lt_succ_self w.heap.size)) 1).trans g1
      have q2 := (set4_other w4 (.int .i64 (stOf U D)) (.bool s4) (.slice a4 (nd K) k4) (.int .i64 e4) (Nat.ne_of_lt (Nat.lt_succ_self w.heap.size)) 2).trans g2
      have q3 := (set4_other w4 (.int .i64 (stOf U D)) (.bool s4) (.slice a4 (nd K) k4) (.int .i64 e4) (Nat.ne_of_lt (Nat.lt_succ_self w.heap.size)) 3).trans g3
      clear hr4 hb4))
    go_wp2_with fail
    refine bodyPost_ret (v := .agg #[.int .i64 (stOf U D), .bool s4, .slice a4 (nd K) k4, .int .i64 e4]) (by simp [results, Try.results14, go_sem, r0, r1, r2, r3]) rfl ⟨s4, a4, K, k4, e4, rfl, (In3.store F2.out F3.out k4).r3, ?_⟩
    repeat (refine Below.setCell ?_ (by simp) _)
    exact F4.out

end Go.Proofs.Yteikihidblcljaa

/- The reference's Prod of numbers (tenorref3). -/
namespace Go.Proofs.Yteikihidblcljaa
open Go.RowKit
set_option linter.unusedSimpArgs false
set_option linter.unusedVariables false

set_option maxHeartbeats 1600000 in
set_option maxRecDepth 100000 in
theorem r3prod_stays (st : Int) (hst : st ≠ 0) (s : Bool) (a : Option Addr) (d c : Nat) (e : Int) (u v : Nat) (hu : F64 u) (hv : F64 v) (fu : fin u = true) (fv : fin v = true) (w : World) (hd : Dgs w a d) :
    Calls Try.prog 14 #[.agg #[.int .i64 st, .bool s, .slice a (nd d) c, .int .i64 e], .int .u64 u, .int .u64 v] w fun en w' =>
      en = .returned (.agg #[.int .i64 st, .bool s, .slice a (nd d) c, .int .i64 e]) ∧ Dgs w' a d ∧ Below w.heap.size w w' := by
  have HU := Hd.mk (rNumber_any u hu)
  rw [fu] at HU
  have HV := Hd.mk (rNumber_any v hv)
  rw [fv] at HV
  have hs0 : (st != 0) = true := by rw [bne_iff_ne]; exact hst
  have HD := Hd.mk hd
  obtain ⟨n, hnd⟩ : ∃ n, nd d = n := ⟨_, rfl⟩
  rw [hnd]
  clear hu hv fu fv hst hd hnd
  obtain ⟨W, hW, b1, b2, b3, b4⟩ := two_boxes w st s a n c e
  have c1 := b1.cell
  have c2 := b2.cell
  have B1 := Hd.mk b1
  have B2 := Hd.mk b2
  have B3 := Hd.mk b3
  obtain ⟨x0, x1, x2, x3⟩ := c1
  obtain ⟨y0, y1, y2, y3⟩ := c2
  have HS := Hd.mk b4
  clear b1 b2 b3 b4
  have HW := Hd.mk hW
  go_enter Try.func14, Try.ntmps14
  go_upto_region 1 with fail
  clear hW HW
  go_wp2_with fail
  refine (HU.out _).mono ?_; rintro en w' ⟨rfl, rfl⟩
  go_wp2_with fail
  refine (HV.out _).mono ?_; rintro en w' ⟨rfl, rfl⟩
  have fz := B2.out.frozen
  go_wp2_with fail
  have HG : Hd (Dgs W a d) := ⟨HD.out.below B3.out⟩
  refine bodyPost_ret (v := .agg #[.int .i64 st, .bool s, .slice a n c, .int .i64 e]) (by simp [results, Try.results14, go_sem, y0, y1, y2, y3]) rfl ⟨rfl, HG.out.stored4 B2.out _ _ _ _, ?_⟩
  repeat (refine Below.setCell ?_ (by simp) _)
  exact B3.out

theorem nd_mnt3 (u : Nat) : nd (mnt u) ≤ 2 := nd_le (n := 2) (by have := mnt_lt u; rw [BB_pow]; exact Nat.lt_trans this (by decide))
theorem nd_prod (u v : Nat) : nd (mnt u * mnt v) ≤ 4 := by
  refine nd_le (n := 4) ?_
  have h1 := mnt_lt u
  have h2 := mnt_lt v
  rw [BB_pow]
  calc mnt u * mnt v ≤ 9007199254740992 * 9007199254740992 := Nat.mul_le_mul (Nat.le_of_lt h1) (Nat.le_of_lt h2)
    _ < 2 ^ (32 * 4) := by decide

set_option maxHeartbeats 3200000 in
set_option maxRecDepth 100000 in
/-- A product of numbers is added where no infinity came. -/
theorem r3prod_num (s : Bool) (a : Option Addr) (d c : Nat) (e : Int) (u v : Nat) (hu : F64 u) (hv : F64 v) (fu : fin u = true) (fv : fin v = true) (w : World) (hd : Dgs w a d) (hs : nd d ≤ 140) (l : -2148 ≤ e) (r : e ≤ 2000)
    (z : Int) (hz0 : sg s (d * 2 ^ (e + 2148).toNat) = z) (hz : AccB (z + pZ u v)) :
    Calls Try.prog 14 #[.agg #[.int .i64 0, .bool s, .slice a (nd d) c, .int .i64 e], .int .u64 u, .int .u64 v] w (R3Ret (z + pZ u v) false false w) := by
  have HU := Hd.mk (rNumber_any u hu)
  rw [fu] at HU
  have HV := Hd.mk (rNumber_any v hv)
  rw [fv] at HV
  have HO := Hd.mk (of_any u hu)
  have HO' := Hd.mk (of_any v hv)
  have hm := nd_mnt3 u
  have hm' := nd_mnt3 v
  have hp := nd_prod u v
  obtain ⟨eu1, eu2, _⟩ := of_val u hu fu
  obtain ⟨ev1, ev2, _⟩ := of_val v hv fv
  have tv := times_val u v hu hv fu fv _ _ _ _ _ _ rfl rfl rfl rfl rfl rfl
  generalize (ng u && !(mnt u == 0)) = s1 at *
  generalize (if mnt u = 0 then 0 else exq u) = e1 at *
  generalize mnt u = M1 at *
  generalize (ng v && !(mnt v == 0)) = s2 at *
  generalize (if mnt v = 0 then 0 else exq v) = e2 at *
  generalize mnt v = M2 at *
  have HT := Hd.mk fun a1 c1 a2 c2 w1 h1 h2 => times_any s1 a1 M1 c1 e1 s2 a2 M2 c2 e2 w1 h1 h2 (by omega) (by omega) (by omega) (by omega)
  obtain ⟨v1, v2, v3⟩ := tv
  generalize ((s1 != s2) && !(M1 * M2 == 0)) = s' at *
  generalize (if M1 * M2 = 0 then 0 else e1 + e2) = e' at *
  generalize M1 * M2 = M at *
  have HPl := Hd.mk fun a' c' w1 h h' => plus_any s a d c e s' a' M c' e' w1 h h' (by omega) (by omega) (by omega) (by omega)
  obtain ⟨E, hE⟩ : ∃ E, plE d e M e' = E := ⟨_, rfl⟩
  obtain ⟨A, hA⟩ : ∃ A, lowN d e E = A := ⟨_, rfl⟩
  obtain ⟨B, hB⟩ : ∃ B, lowN M e' E = B := ⟨_, rfl⟩
  obtain ⟨p1, p2, p3⟩ := plus_val s d e s' M e' l v1 r (by omega) E A B hE hA hB
  rw [hE, hA, hB] at HPl
  rw [hz0, v3] at p3
  generalize sumS s A s' B = S at *
  generalize sumD s A s' B = K at *
  generalize sumE s A s' B E = E4 at *
  have hK : nd K ≤ 140 := by
    refine AccB_nd hz ?_
    rw [← p3, sg_natAbs]
    exact Nat.le_mul_of_pos_right _ (Nat.pow_pos (by decide))
  have HVal := Hd.mk p3
  have HD := Hd.mk hd
  obtain ⟨n, hnd⟩ : ∃ n, nd d = n := ⟨_, rfl⟩
  rw [hnd] at HPl ⊢
  obtain ⟨st, hst⟩ : ∃ st : Int, st = 0 := ⟨_, rfl⟩
  rw [← hst]
  have hs0 : (st != 0) = false := by rw [hst]; rfl
  have HK := Hd.mk (And.intro hK (And.intro p1 p2))
  clear hu hv fu fv hd hs l r hz0 hz v1 v2 v3 hm hm' hp hE hA hB p1 p2 p3 hK hnd hst eu1 eu2 ev1 ev2
  obtain ⟨W, hW, b1, b2, b3, b4⟩ := two_boxes w st s a n c e
  have c1 := b1.cell
  have c2 := b2.cell
  have B1 := Hd.mk b1
  have B2 := Hd.mk b2
  have B3 := Hd.mk b3
  obtain ⟨x0, x1, x2, x3⟩ := c1
  obtain ⟨y0, y1, y2, y3⟩ := c2
  have HS := Hd.mk b4
  clear b1 b2 b3 b4
  have HW := Hd.mk hW
  go_enter Try.func14, Try.ntmps14
  go_upto_region 1 with fail
  clear hW HW
  have fz := B2.out.frozen
  go_wp2_with fail
  refine (HU.out _).mono ?_; rintro en w' ⟨rfl, rfl⟩
  go_wp2_with fail
  refine (HV.out _).mono ?_; rintro en w' ⟨rfl, rfl⟩
  go_upto_region 5 with fail
  have HG : Hd (Dgs W a d) := ⟨HD.out.below B3.out⟩
  have G0 : Hd (Dgs W.drew a d) := ⟨HG.out.keep fun _ _ _ h => h⟩
  have v1 : W.drew.cell? ⟨w.heap.size, 1, none⟩ = some (.bool s) := x1
  have v2 : W.drew.cell? ⟨w.heap.size, 2, none⟩ = some (.slice a n c) := x2
  have v3 : W.drew.cell? ⟨w.heap.size, 3, none⟩ = some (.int .i64 e) := x3
  go_region_held3 (fun w' => w'.cell? ⟨w.heap.size, 1, none⟩ = some (.bool s) ∧ w'.cell? ⟨w.heap.size, 2, none⟩ = some (.slice a n c) ∧ w'.cell? ⟨w.heap.size, 3, none⟩ = some (.int .i64 e)) (first | with_reducible exact ⟨v1, v2, v3⟩ | with_reducible exact ⟨d1, d2, d3⟩ | with_reducible exact ⟨i1, i2, i3⟩ | with_reducible exact ⟨j1, j2, j3⟩ | with_reducible exact ⟨g1, g2, g3⟩ | with_reducible exact ⟨q1, q2, q3⟩ | (refine ⟨?_, ?_, ?_⟩ <;> go_simp)) (
    first
    | (
    go_at_call 61
    with_reducible refine (HO.out W.drew).mono ?_
    rintro en w3 ⟨a1, k1, rfl, hd2, hb2⟩
    have C1 := Hd.mk ((show Box3 W.drew _ _ _ _ _ _ _ from B1.out).below hb2)
    have C2 := Hd.mk ((show Box3 W.drew _ _ _ _ _ _ _ from B2.out).below hb2)
    have G1 := Hd.mk (G0.out.below hb2)
    have U1 := Hd.mk hd2
    have D3 := Hd.mk (B3.out.drew.trans (hb2.mono B3.out.size))
    have d1 := C1.out.cell.2.1
    have d2 := C1.out.cell.2.2.1
    have d3 := C1.out.cell.2.2.2
    clear hd2 hb2)
    | (
    go_at_call 61
    with_reducible refine (HO'.out w3).mono ?_
    rintro en w6 ⟨a2, k2, rfl, hd2, hb2⟩
    have C3 := Hd.mk (C1.out.below hb2)
    have C4 := Hd.mk (C2.out.below hb2)
    have G2 := Hd.mk (G1.out.below hb2)
    have U2 := Hd.mk (U1.out.below hb2)
    have V2 := Hd.mk hd2
    have D4 := Hd.mk (D3.out.trans (hb2.mono D3.out.size))
    have i1 := C3.out.cell.2.1
    have i2 := C3.out.cell.2.2.1
    have i3 := C3.out.cell.2.2.2
    clear hd2 hb2)
    | (
    go_at_call 66
    refine (HT.out _ _ _ _ _ U2.out V2.out).mono ?_
    rintro en w7 ⟨a3, k3, rfl, hd2, hb2⟩
    have C5 := Hd.mk (C3.out.below hb2)
    have C6 := Hd.mk (C4.out.below hb2)
    have G3 := Hd.mk (G2.out.below hb2)
    have U3 := Hd.mk hd2
    have D5 := Hd.mk (D4.out.trans (hb2.mono D4.out.size))
    have j1 := C5.out.cell.2.1
    have j2 := C5.out.cell.2.2.1
    have j3 := C5.out.cell.2.2.2
    clear hd2 hb2)
    | (
    go_at_call 60
    refine (HPl.out _ _ _ G3.out U3.out).mono ?_
    rintro en w4 ⟨a4, k4, rfl, hd4, hb4⟩
    have F1 := Hd.mk (C5.out.below hb4)
    have F2 := Hd.mk (C6.out.below hb4)
    have F3 := Hd.mk hd4
    have F4 := Hd.mk (D5.out.trans (hb4.mono D5.out.size))
    have g1 := F1.out.cell.2.1
    have g2 := F1.out.cell.2.2.1
    have g3 := F1.out.cell.2.2.2
    have r0 := F2.out.cell.1
    have r1 := F2.out.cell.2.1
    have r2 := F2.out.cell.2.2.1
    have r3 := F2.out.cell.2.2.2
    have fz4 := F2.out.frozen
    have q1 := (set4_other w4 (.int .i64 0) (.bool S) (.slice a4 (nd K) k4) (.int .i64 E4) (Nat.ne_of_lt (Nat.lt_succ_self w.heap.size)) 1).trans g1
    have q2 := (set4_other w4 (.int .i64 0) (.bool S) (.slice a4 (nd K) k4) (.int .i64 E4) (Nat.ne_of_lt (Nat.lt_succ_self w.heap.size)) 2).trans g2
    have q3 := (set4_other w4 (.int .i64 0) (.bool S) (.slice a4 (nd K) k4) (.int .i64 E4) (Nat.ne_of_lt (Nat.lt_succ_self w.heap.size)) 3).trans g3
    clear hd4 hb4))
  go_wp2_with fail
  have HR : Hd (∀ w5, Dgs w5 a4 K → R3 w5 S a4 K E4 (z + pZ u v) false false) := ⟨fun w5 h => ⟨h, HK.out.1, HK.out.2.1, HK.out.2.2, fun _ _ => HVal.out⟩⟩
  refine bodyPost_ret (v := .agg #[.int .i64 0, .bool S, .slice a4 (nd K) k4, .int .i64 E4]) (by simp [results, Try.results14, go_sem, r0, r1, r2, r3]) rfl ⟨S, a4, K, k4, E4, rfl, HR.out _ (F3.out.stored4 F2.out _ _ _ _), ?_⟩
  repeat (refine Below.setCell ?_ (by simp) _)
  exact F4.out

end Go.Proofs.Yteikihidblcljaa

/- The reference's Prod for every state, and its Dot. -/
namespace Go.Proofs.Yteikihidblcljaa
open Go.RowKit
set_option linter.unusedSimpArgs false
set_option linter.unusedVariables false

theorem r3prod_any (up dn : Bool) (s : Bool) (a : Option Addr) (d c : Nat) (e : Int) (z : Int) (u v : Nat) (hu : F64 u) (hv : F64 v) (w : World) (h : R3 w s a d e z up dn) (hz : AccB (z + pZ u v)) :
    Calls Try.prog 14 #[.agg #[.int .i64 (stOf up dn), .bool s, .slice a (nd d) c, .int .i64 e], .int .u64 u, .int .u64 v] w (R3Ret (z + pZ u v) (up || puB u v) (dn || pdB u v) w) := by
  cases hf : (fin u && fin v)
  · have h1 : pZ u v = aZ (fmul u v) := by unfold pZ; rw [hf]; rfl
    have h2 : puB u v = upB (fmul u v) := by unfold puB; rw [hf]; rfl
    have h3 : pdB u v = dnB (fmul u v) := by unfold pdB; rw [hf]; rfl
    rw [h1] at hz
    rw [h1, h2, h3]
    exact r3prod_far up dn s a d c e z u v hu hv hf w h hz
  · have h2 : puB u v = false := by unfold puB; rw [hf]; rfl
    have h3 : pdB u v = false := by unfold pdB; rw [hf]; rfl
    rw [h2, h3, Bool.or_false, Bool.or_false]
    rw [Bool.and_eq_true] at hf
    by_cases h0 : up = false ∧ dn = false
    · obtain ⟨rfl, rfl⟩ := h0
      exact r3prod_num s a d c e u v hu hv hf.1 hf.2 w h.dg h.sm h.lo h.hi z (h.val rfl rfl) hz
    · have hst : stOf up dn ≠ 0 := by cases up <;> cases dn <;> simp [stOf] at h0 ⊢
      refine (r3prod_stays (stOf up dn) hst s a d c e u v hu hv hf.1 hf.2 w h.dg).mono ?_
      rintro en w' ⟨rfl, hd, hb⟩
      exact ⟨s, a, d, c, e, rfl, ⟨hd, h.sm, h.lo, h.hi, fun e1 e2 => absurd ⟨e1, e2⟩ h0⟩, hb⟩

end Go.Proofs.Yteikihidblcljaa

/- The reference's Merge (tenorref3). -/
namespace Go.Proofs.Yteikihidblcljaa
open Go.RowKit
set_option linter.unusedSimpArgs false
set_option linter.unusedVariables false

theorem three_boxes (w : World) (st : Int) (s : Bool) (a : Option Addr) (n c : Nat) (e : Int) (st' : Int) (s' : Bool) (a' : Option Addr) (n' c' : Nat) (e' : Int) :
    ∃ W, (((w.alloc (.cells #[.int .i64 st, .bool s, .slice a n c, .int .i64 e] 37)).alloc (.cells #[.int .i64 st', .bool s', .slice a' n' c', .int .i64 e'] 37)).alloc (.cells #[.int .i64 0, .bool false, .slice none 0 0, .int .i64 0] 37)) = W ∧
      Box3 W w.heap.size st s a n c e ∧ Box3 W (w.heap.size + 1) st' s' a' n' c' e' ∧ Box3 W (w.heap.size + 1 + 1) 0 false none 0 0 0 ∧ Below w.heap.size w W := by
  refine ⟨_, rfl, ?_, ?_, ?_, ((((Below.refl _ _).alloc (Nat.le_refl _) _).alloc (World.alloc_size_le _ _) _).alloc (Nat.le_trans (World.alloc_size_le _ _) (World.alloc_size_le _ _)) _)⟩
  · unfold Box3 World.alloc; simp [Array.getElem?_push, Array.getElem_push]; omega
  · unfold Box3 World.alloc; simp [Array.getElem?_push, Array.getElem_push]
  · unfold Box3 World.alloc; simp [Array.getElem?_push, Array.getElem_push]

set_option maxHeartbeats 1600000 in
set_option maxRecDepth 100000 in
/-- What is merged has had infinities. -/
theorem r3merge_inf (st : Int) (up dn : Bool) (hst : stOf up dn = st) (s : Bool) (a : Option Addr) (n c : Nat) (e : Int) (neg : Bool) (s' : Bool) (a' : Option Addr) (n' c' : Nat) (e' : Int) (w : World) :
    Calls Try.prog 16 #[.agg #[.int .i64 st, .bool s, .slice a n c, .int .i64 e], .agg #[.int .i64 (if neg then 2 else 1), .bool s', .slice a' n' c', .int .i64 e']] w fun en w' =>
      en = .returned (.agg #[.int .i64 (stOf (up || !neg) (dn || neg)), .bool false, .slice none 0 0, .int .i64 0]) ∧ Below w.heap.size w w' := by
  have HF := Hd.mk (r3inf_any up dn neg s a n c e)
  rw [hst] at HF
  generalize stOf (up || !neg) (dn || neg) = st2 at *
  clear hst
  obtain ⟨W, hW, b1, b2, b3, b4⟩ := three_boxes w st s a n c e (if neg then 2 else 1) s' a' n' c' e'
  have c1 := b1.cell
  have c2 := b2.cell
  have B3 := Hd.mk b3
  have B4 := Hd.mk b4
  obtain ⟨x0, x1, x2, x3⟩ := c1
  obtain ⟨y0, y1, y2, y3⟩ := c2
  clear b1 b2 b3 b4
  cases neg
  all_goals
    simp only [Bool.false_eq_true, if_false, if_true] at hW y0 ⊢
    go_enter Try.func16, Try.ntmps16
    go_upto_region 1 with fail
    clear hW
    go_wp2_with fail
    refine (HF.out _).mono ?_; rintro en w5 ⟨rfl, hb⟩
    have C2 := Hd.mk (B3.out.below hb)
    have D := Hd.mk (B4.out.trans (hb.mono B4.out.size))
    obtain ⟨z0, z1, z2, z3⟩ := C2.out.cell
    have fz := C2.out.frozen
    clear hb x0 x1 x2 x3 y0 y1 y2 y3
    go_wp2_with fail
    exact bodyPost_ret (v := .agg #[.int .i64 st2, .bool false, .slice none 0 0, .int .i64 0]) (by simp [results, Try.results16, go_sem, z0, z1, z2, z3]) rfl ⟨rfl, by (repeat (refine Below.setCell ?_ (show w.heap.size ≤ w.heap.size + 1 + 1 by omega) _)); exact D.out⟩

end Go.Proofs.Yteikihidblcljaa

/- The reference's Merge of sums (tenorref3). -/
namespace Go.Proofs.Yteikihidblcljaa
open Go.RowKit
set_option linter.unusedSimpArgs false
set_option linter.unusedVariables false

set_option maxHeartbeats 1600000 in
set_option maxRecDepth 100000 in
theorem r3merge_none (st : Int) (s : Bool) (a : Option Addr) (n c : Nat) (e : Int) (s' : Bool) (a' : Option Addr) (d' c' : Nat) (e' : Int) (w : World) (hd : Dgs w a' d') :
    Calls Try.prog 16 #[.agg #[.int .i64 st, .bool s, .slice a n c, .int .i64 e], .agg #[.int .i64 3, .bool s', .slice a' (nd d') c', .int .i64 e']] w fun en w' =>
      en = .returned (.agg #[.int .i64 3, .bool s', .slice a' (nd d') c', .int .i64 e']) ∧ Dgs w' a' d' ∧ Below w.heap.size w w' := by
  have HD := Hd.mk hd
  obtain ⟨n', hnd⟩ : ∃ n, nd d' = n := ⟨_, rfl⟩
  rw [hnd]
  clear hd hnd
  obtain ⟨W, hW, b1, b2, b3, b4⟩ := three_boxes w st s a n c e 3 s' a' n' c' e'
  have c1 := b1.cell
  have c2 := b2.cell
  have B3 := Hd.mk b3
  have B4 := Hd.mk b4
  obtain ⟨x0, x1, x2, x3⟩ := c1
  obtain ⟨y0, y1, y2, y3⟩ := c2
  obtain ⟨z0, z1, z2, z3⟩ := b3.cell
  have fz := b3.frozen
  clear b1 b2 b3 b4
  go_enter Try.func16, Try.ntmps16
  go_upto_region 1 with fail
  clear hW
  go_wp2_with fail
  have HG : Hd (Dgs W a' d') := ⟨HD.out.below B4.out⟩
  refine bodyPost_ret (v := .agg #[.int .i64 3, .bool s', .slice a' n' c', .int .i64 e']) (by simp [results, Try.results16, go_sem, z0, z1, z2, z3]) rfl ⟨rfl, HG.out.stored4 B3.out _ _ _ _, ?_⟩
  (repeat (refine Below.setCell ?_ (show w.heap.size ≤ w.heap.size + 1 + 1 by omega) _))
  exact B4.out

set_option maxHeartbeats 1600000 in
set_option maxRecDepth 100000 in
theorem r3merge_stays (st : Int) (hst : st ≠ 0) (s : Bool) (a : Option Addr) (d c : Nat) (e : Int) (s' : Bool) (a' : Option Addr) (n' c' : Nat) (e' : Int) (w : World) (hd : Dgs w a d) :
    Calls Try.prog 16 #[.agg #[.int .i64 st, .bool s, .slice a (nd d) c, .int .i64 e], .agg #[.int .i64 0, .bool s', .slice a' n' c', .int .i64 e']] w fun en w' =>
      en = .returned (.agg #[.int .i64 st, .bool s, .slice a (nd d) c, .int .i64 e]) ∧ Dgs w' a d ∧ Below w.heap.size w w' := by
  have HD := Hd.mk hd
  have hs0 : (st != 0) = true := by rw [bne_iff_ne]; exact hst
  obtain ⟨n, hnd⟩ : ∃ n, nd d = n := ⟨_, rfl⟩
  rw [hnd]
  clear hd hnd hst
  obtain ⟨W, hW, b1, b2, b3, b4⟩ := three_boxes w st s a n c e 0 s' a' n' c' e'
  have c1 := b1.cell
  have c2 := b2.cell
  have B3 := Hd.mk b3
  have B4 := Hd.mk b4
  obtain ⟨x0, x1, x2, x3⟩ := c1
  obtain ⟨y0, y1, y2, y3⟩ := c2
  obtain ⟨z0, z1, z2, z3⟩ := b3.cell
  have fz := b3.frozen
  clear b1 b2 b3 b4
  go_enter Try.func16, Try.ntmps16
  go_upto_region 1 with fail
  clear hW
  go_wp2_with fail
  have HG : Hd (Dgs W a d) := ⟨HD.out.below B4.out⟩
  refine bodyPost_ret (v := .agg #[.int .i64 st, .bool s, .slice a n c, .int .i64 e]) (by simp [results, Try.results16, go_sem, z0, z1, z2, z3]) rfl ⟨rfl, HG.out.stored4 B3.out _ _ _ _, ?_⟩
  (repeat (refine Below.setCell ?_ (show w.heap.size ≤ w.heap.size + 1 + 1 by omega) _))
  exact B4.out

set_option maxHeartbeats 1600000 in
set_option maxRecDepth 100000 in
theorem r3merge_num (s : Bool) (a : Option Addr) (d c : Nat) (e z : Int) (s' : Bool) (a' : Option Addr) (d' c' : Nat) (e' z' : Int) (w : World) (h : R3 w s a d e z false false) (h' : R3 w s' a' d' e' z' false false) (hz : AccB (z + z')) :
    Calls Try.prog 16 #[.agg #[.int .i64 0, .bool s, .slice a (nd d) c, .int .i64 e], .agg #[.int .i64 0, .bool s', .slice a' (nd d') c', .int .i64 e']] w (R3Ret (z + z') false false w) := by
  have hs := h.sm
  have hs' := h'.sm
  have HPl := Hd.mk fun w1 (g : Dgs w1 a d) g' => plus_any s a d c e s' a' d' c' e' w1 g g' (by omega) (by omega) (by have := h.lo; have := h.hi; omega) (by have := h'.lo; have := h'.hi; omega)
  obtain ⟨E, hE⟩ : ∃ E, plE d e d' e' = E := ⟨_, rfl⟩
  obtain ⟨A, hA⟩ : ∃ A, lowN d e E = A := ⟨_, rfl⟩
  obtain ⟨B, hB⟩ : ∃ B, lowN d' e' E = B := ⟨_, rfl⟩
  obtain ⟨p1, p2, p3⟩ := plus_val s d e s' d' e' h.lo h'.lo h.hi h'.hi E A B hE hA hB
  rw [hE, hA, hB] at HPl
  rw [h.val rfl rfl, h'.val rfl rfl] at p3
  generalize sumS s A s' B = S at *
  generalize sumD s A s' B = K at *
  generalize sumE s A s' B E = E4 at *
  have hK : nd K ≤ 140 := by
    refine AccB_nd hz ?_
    rw [← p3, sg_natAbs]
    exact Nat.le_mul_of_pos_right _ (Nat.pow_pos (by decide))
  have HVal := Hd.mk p3
  have HK := Hd.mk (And.intro hK (And.intro p1 p2))
  have HD := Hd.mk h.dg
  have HD' := Hd.mk h'.dg
  obtain ⟨n, hnd⟩ : ∃ n, nd d = n := ⟨_, rfl⟩
  obtain ⟨n', hnd'⟩ : ∃ n, nd d' = n := ⟨_, rfl⟩
  rw [hnd, hnd'] at HPl ⊢
  clear h h' hz hs hs' hE hA hB p1 p2 p3 hK hnd hnd'
  obtain ⟨W, hW, b1, b2, b3, b4⟩ := three_boxes w 0 s a n c e 0 s' a' n' c' e'
  have c1 := b1.cell
  have c2 := b2.cell
  have B3 := Hd.mk b3
  have B4 := Hd.mk b4
  obtain ⟨x0, x1, x2, x3⟩ := c1
  obtain ⟨y0, y1, y2, y3⟩ := c2
  clear b1 b2 b3 b4
  go_enter Try.func16, Try.ntmps16
  go_upto_region 1 with fail
  clear hW
  go_wp2_with fail
  refine (HPl.out _ (HD.out.below B4.out) (HD'.out.below B4.out)).mono ?_; rintro en w5 ⟨a4, k4, rfl, hd4, hb⟩
  have C2 := Hd.mk (B3.out.below hb)
  have D := Hd.mk (B4.out.trans (hb.mono B4.out.size))
  have F3 := Hd.mk hd4
  obtain ⟨z0, z1, z2, z3⟩ := C2.out.cell
  have fz := C2.out.frozen
  clear hb hd4 x0 x1 x2 x3 y0 y1 y2 y3
  go_wp2_with fail
  have HR : Hd (∀ w5, Dgs w5 a4 K → R3 w5 S a4 K E4 (z + z') false false) := ⟨fun w5 h => ⟨h, HK.out.1, HK.out.2.1, HK.out.2.2, fun _ _ => HVal.out⟩⟩
  refine bodyPost_ret (v := .agg #[.int .i64 0, .bool S, .slice a4 (nd K) k4, .int .i64 E4]) (by simp [results, Try.results16, go_sem, z0, z1, z2, z3]) rfl ⟨S, a4, K, k4, E4, rfl, HR.out _ (F3.out.stored4 C2.out _ _ _ _), ?_⟩
  (repeat (refine Below.setCell ?_ (show w.heap.size ≤ w.heap.size + 1 + 1 by omega) _))
  exact D.out

theorem r3merge_any (up dn : Bool) (s : Bool) (a : Option Addr) (d c : Nat) (e z : Int) (up' dn' : Bool) (s' : Bool) (a' : Option Addr) (d' c' : Nat) (e' z' : Int) (w : World) (h : R3 w s a d e z up dn) (h' : R3 w s' a' d' e' z' up' dn') (hz : AccB (z + z')) :
    Calls Try.prog 16 #[.agg #[.int .i64 (stOf up dn), .bool s, .slice a (nd d) c, .int .i64 e], .agg #[.int .i64 (stOf up' dn'), .bool s', .slice a' (nd d') c', .int .i64 e']] w (R3Ret (z + z') (up || up') (dn || dn') w) := by
  cases up' <;> cases dn'
  · rw [Bool.or_false, Bool.or_false]
    by_cases h0 : up = false ∧ dn = false
    · obtain ⟨rfl, rfl⟩ := h0
      exact r3merge_num s a d c e z s' a' d' c' e' z' w h h' hz
    · have hst : stOf up dn ≠ 0 := by cases up <;> cases dn <;> simp [stOf] at h0 ⊢
      refine (r3merge_stays (stOf up dn) hst s a d c e s' a' (nd d') c' e' w h.dg).mono ?_
      rintro en w' ⟨rfl, hd, hb⟩
      exact ⟨s, a, d, c, e, rfl, ⟨hd, h.sm, h.lo, h.hi, fun e1 e2 => absurd ⟨e1, e2⟩ h0⟩, hb⟩
  · refine (r3merge_inf (stOf up dn) up dn rfl s a (nd d) c e true s' a' (nd d') c' e' w).mono ?_
    rintro en w' ⟨rfl, hb⟩
    exact ⟨false, none, 0, 0, 0, by simp [nd], R3.zero _ _ _ _ (fun _ e2 => by simp at e2), hb⟩
  · refine (r3merge_inf (stOf up dn) up dn rfl s a (nd d) c e false s' a' (nd d') c' e' w).mono ?_
    rintro en w' ⟨rfl, hb⟩
    exact ⟨false, none, 0, 0, 0, by simp [nd], R3.zero _ _ _ _ (fun e1 _ => by simp at e1), hb⟩
  · rw [Bool.or_true, Bool.or_true]
    refine (r3merge_none (stOf up dn) s a (nd d) c e s' a' d' c' e' w h'.dg).mono ?_
    rintro en w' ⟨rfl, hd, hb⟩
    exact ⟨s', a', d', c', e', rfl, ⟨hd, h'.sm, h'.lo, h'.hi, fun e1 _ => by cases e1⟩, hb⟩

end Go.Proofs.Yteikihidblcljaa

/- The reference's Over (tenorref3), for every state and every whole number from 1 on. -/
namespace Go.Proofs.Yteikihidblcljaa
open Go.RowKit
set_option linter.unusedSimpArgs false
set_option linter.unusedVariables false

theorem one_box (w : World) (st : Int) (s : Bool) (a : Option Addr) (n c : Nat) (e : Int) :
    ∃ W, (w.alloc (.cells #[.int .i64 st, .bool s, .slice a n c, .int .i64 e] 37)) = W ∧ Box3 W w.heap.size st s a n c e ∧ Below w.heap.size w W := by
  refine ⟨_, rfl, ?_, ((Below.refl _ _).alloc (Nat.le_refl _) _)⟩
  unfold Box3 World.alloc; simp [Array.getElem?_push]
theorem nd_i64 (n : Nat) (h : n ≤ 9223372036854775807) : nd n ≤ 2 := nd_le (n := 2) (by rw [BB_pow]; exact Nat.lt_of_le_of_lt h (by decide))

set_option maxHeartbeats 1600000 in
set_option maxRecDepth 100000 in
theorem r3over_num (s : Bool) (a : Option Addr) (d c : Nat) (e : Int) (z : Int) (n : Nat) (hn : 1 < n) (hn2 : n ≤ 9223372036854775807) (w : World) (h : R3 w s a d e z false false) :
    Calls Try.prog 22 #[.agg #[.int .i64 0, .bool s, .slice a (nd d) c, .int .i64 e], .int .i64 n] w (URet (overA z false false n) w) := by
  rw [← over_val s d e z n (by omega) h.lo (h.val rfl rfl)]
  have hs := h.sm
  have hlo := h.lo
  have hhi := h.hi
  have HD := Hd.mk h.dg
  have HW := Hd.mk (whole_any n (by omega) (by omega))
  rw [show decide ((n : Int) < 0) = false by simp, Int.natAbs_natCast] at HW
  have hnn := nd_i64 n hn2
  have HN := Hd.mk fun a' c' w1 h1 h2 => nearOver_any s a d c e false a' n c' 0 w1 h1 h2 (by omega) (by omega) (by omega) (by omega) (by decide)
  have n1 : ((n : Int) == 1) = false := by rw [beq_eq_false_iff_ne]; omega
  generalize overN s d e n 0 = v at *
  obtain ⟨N, hN⟩ : ∃ N, nd d = N := ⟨_, rfl⟩
  rw [hN] at HN ⊢
  clear h hs hlo hhi hn hn2 hnn hN
  obtain ⟨W, hW, b1, b2⟩ := one_box w 0 s a N c e
  obtain ⟨x0, x1, x2, x3⟩ := b1.cell
  have B1 := Hd.mk b1
  have B2 := Hd.mk b2
  clear b1 b2
  go_enter Try.func22, Try.ntmps22
  go_upto_region 1 with fail
  clear hW
  go_wp2_with fail
  have GD : Hd (Dgs W.drew a d) := ⟨(HD.out.below B2.out).keep fun _ _ _ h => h⟩
  go_region_held3 (fun w' => w'.cell? ⟨w.heap.size, 1, none⟩ = some (.bool s) ∧ w'.cell? ⟨w.heap.size, 2, none⟩ = some (.slice a N c) ∧ w'.cell? ⟨w.heap.size, 3, none⟩ = some (.int .i64 e)) (first | exact ⟨x1, x2, x3⟩ | exact ⟨d1, d2, d3⟩ | exact ⟨g1, g2, g3⟩ | (refine ⟨?_, ?_, ?_⟩ <;> go_simp)) (
    first
    | (
    go_at_call 79
    refine (HW.out _).mono ?_
    rintro en w3 ⟨a2, k2, rfl, hd2, hb2⟩
    have C1 := Hd.mk ((show Box3 W.drew _ _ _ _ _ _ _ from B1.out).below hb2)
    have D1 := Hd.mk (GD.out.below hb2)
    have D2 := Hd.mk hd2
    have D3 := Hd.mk (B2.out.drew.trans (hb2.mono B2.out.size))
    have d1 := C1.out.cell.2.1
    have d2 := C1.out.cell.2.2.1
    have d3 := C1.out.cell.2.2.2
    clear hd2 hb2)
    | (
    go_at_call 78
    refine (HN.out _ _ _ D1.out D2.out).mono ?_
    rintro en w4 ⟨rfl, hb4⟩
    have F1 := Hd.mk (C1.out.below hb4)
    have F4 := Hd.mk (D3.out.trans (hb4.mono D3.out.size))
    have g1 := F1.out.cell.2.1
    have g2 := F1.out.cell.2.2.1
    have g3 := F1.out.cell.2.2.2
    clear hb4))
  go_wp2_with fail
  go_ret
  exact ⟨rfl, F4.out⟩

theorem r3over_any (up dn : Bool) (s : Bool) (a : Option Addr) (d c : Nat) (e : Int) (z : Int) (n : Nat) (hn : 1 ≤ n) (hn2 : n ≤ 9223372036854775807) (w : World) (h : R3 w s a d e z up dn) :
    Calls Try.prog 22 #[.agg #[.int .i64 (stOf up dn), .bool s, .slice a (nd d) c, .int .i64 e], .int .i64 n] w (URet (overA z up dn n) w) := by
  by_cases h1 : n = 1
  · subst h1; exact r3over1_any up dn s a d c e z w h
  by_cases h0 : up = false ∧ dn = false
  · obtain ⟨rfl, rfl⟩ := h0
    exact r3over_num s a d c e z n (by omega) hn2 w h
  · have HB : Hd (∀ (o : Obj), Below w.heap.size w (w.alloc o)) := ⟨fun o => ((Below.refl _ _).alloc (Nat.le_refl _) o)⟩
    clear h h1 hn hn2
    generalize nd d = m at *
    cases up <;> cases dn
    · exact absurd ⟨rfl, rfl⟩ h0
    · rw [show stOf false true = 2 from rfl, show overA z false true n = 18442240474082181120 from rfl]
      clear h0
      go_enter Try.func22, Try.ntmps22
      go_wp2_with fail
      refine (rFlip_any _ ⟨by decide⟩ _).mono ?_; rintro en w' ⟨rfl, rfl⟩
      rw [show flip64 9218868437227405312 = 18442240474082181120 by decide +kernel]
      go_wp2_with fail
      go_ret
      exact ⟨rfl, HB.out _⟩
    · rw [show stOf true false = 1 from rfl, show overA z true false n = 9218868437227405312 from rfl]
      clear h0
      go_enter Try.func22, Try.ntmps22
      go_wp2_with fail
      go_ret
      exact ⟨rfl, HB.out _⟩
    · rw [show stOf true true = 3 from rfl, show overA z true true n = 9221120237041090561 from rfl]
      clear h0
      go_enter Try.func22, Try.ntmps22
      go_wp2_with fail
      go_ret
      exact ⟨rfl, HB.out _⟩

end Go.Proofs.Yteikihidblcljaa
