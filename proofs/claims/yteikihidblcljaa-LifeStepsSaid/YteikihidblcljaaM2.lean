/- Put together out of several texts: Bi Ro Bs Rp Po Rk Se. -/
import Derived.Test.YteikihidblcljaaM1
import Derived.BigQuiet
import Derived.Deep.LoopGhost
import Derived.WalkSmall
import Derived.Deep.QuietTactic

/- Plain: bisection. No program. -/
namespace Go.Proofs.Yteikihidblcljaa

/-- The middle of two by their ranks. -/
def md (lo hi : Nat) : Nat := atk ((rk lo + rk hi) / 2)

/-- Bisection of g, with a bound on the rounds; sa: is g above 0 at the left end? What is found, how often was asked, the error. -/
def bis (g : Nat → Nat) (sa : Bool) : Nat → Nat → Nat → Nat → Nat × Nat × Int
  | 0, lo, _, c => (lo, c, 0)
  | k + 1, lo, hi, c =>
    if rk (md lo hi) = rk lo then (lo, c, 0)
    else if nn (g (md lo hi)) then (0, c + 1, 91)
    else if rk (g (md lo hi)) = 0 then (md lo hi, c + 1, 0)
    else if decide (0 < rk (g (md lo hi))) = sa then bis g sa k (md lo hi) hi (c + 1)
    else bis g sa k lo (md lo hi) (c + 1)

def okEnds (lo hi : Nat) : Bool := fin lo && fin hi && decide (rk lo < rk hi)

def root (g : Nat → Nat) (lo hi : Nat) : Nat × Nat × Int :=
  if okEnds lo hi = false then (0, 0, 1)
  else if nn (g lo) then (0, 1, 91)
  else if nn (g hi) then (0, 2, 91)
  else if rk (g lo) = 0 then (lo, 2, 0)
  else if rk (g hi) = 0 then (hi, 2, 0)
  else if decide (0 < rk (g lo)) = decide (0 < rk (g hi)) then (0, 2, 120)
  else bis g (decide (0 < rk (g lo))) 64 lo hi 2

theorem md_rk {lo hi : Nat} (h1 : nn lo = false) (h2 : nn hi = false) : rk (md lo hi) = (rk lo + rk hi) / 2 ∧ F64 (md lo hi) ∧ nn (md lo hi) = false := by
  have a := rk_bd lo h1
  have b := rk_bd hi h2
  unfold md
  exact ⟨rk_atk _ (by omega) (by omega), atk_F64 _ (by omega) (by omega), nn_atk _ (by omega) (by omega)⟩

theorem bis_stop (g : Nat → Nat) (sa : Bool) (k lo hi c : Nat) (h : rk (md lo hi) = rk lo) : bis g sa k lo hi c = (lo, c, 0) := by
  cases k with
  | zero => rfl
  | succ k => unfold bis; rw [if_pos h]
theorem bis_nan (g : Nat → Nat) (sa : Bool) (k lo hi c : Nat) (h : ¬ rk (md lo hi) = rk lo) (h1 : nn (g (md lo hi)) = true) : bis g sa (k + 1) lo hi c = (0, c + 1, 91) := by
  rw [bis, if_neg h, if_pos h1]
theorem bis_zero (g : Nat → Nat) (sa : Bool) (k lo hi c : Nat) (h : ¬ rk (md lo hi) = rk lo) (h1 : nn (g (md lo hi)) = false) (h2 : rk (g (md lo hi)) = 0) : bis g sa (k + 1) lo hi c = (md lo hi, c + 1, 0) := by
  rw [bis, if_neg h, if_neg (by simp [h1]), if_pos h2]
theorem bis_up (g : Nat → Nat) (sa : Bool) (k lo hi c : Nat) (h : ¬ rk (md lo hi) = rk lo) (h1 : nn (g (md lo hi)) = false) (h2 : ¬ rk (g (md lo hi)) = 0) (h3 : decide (0 < rk (g (md lo hi))) = sa) : bis g sa (k + 1) lo hi c = bis g sa k (md lo hi) hi (c + 1) := by
  rw [bis, if_neg h, if_neg (by simp [h1]), if_neg h2, if_pos h3]
theorem bis_dn (g : Nat → Nat) (sa : Bool) (k lo hi c : Nat) (h : ¬ rk (md lo hi) = rk lo) (h1 : nn (g (md lo hi)) = false) (h2 : ¬ rk (g (md lo hi)) = 0) (h3 : ¬ decide (0 < rk (g (md lo hi))) = sa) : bis g sa (k + 1) lo hi c = bis g sa k lo (md lo hi) (c + 1) := by
  rw [bis, if_neg h, if_neg (by simp [h1]), if_neg h2, if_neg h3]

theorem md_bd {lo hi : Nat} (h1 : nn lo = false) (h2 : nn hi = false) (hlt : rk lo < rk hi) {k : Nat} (he : ¬ rk (md lo hi) = rk lo) (hg : rk hi - rk lo ≤ 2 ^ (k + 1)) :
    rk lo < rk (md lo hi) ∧ rk (md lo hi) < rk hi ∧ rk (md lo hi) - rk lo ≤ 2 ^ k ∧ rk hi - rk (md lo hi) ≤ 2 ^ k := by
  rw [(md_rk h1 h2).1] at *
  rw [Int.pow_succ] at hg
  generalize (2 : Int) ^ k = p at *
  omega

theorem gap_0 {lo hi : Nat} (h1 : nn lo = false) (h2 : nn hi = false) (hlt : rk lo < rk hi) (hg : rk hi - rk lo ≤ 2 ^ 0) : rk (md lo hi) = rk lo := by
  rw [(md_rk h1 h2).1]
  have : (2 : Int) ^ 0 = 1 := rfl
  omega

end Go.Proofs.Yteikihidblcljaa

/- The walk of solve.Root, whatever the function is. -/
namespace Go.Proofs.Yteikihidblcljaa
open Go.RowKit

/-- The blocks from B on are as they were. -/
structure Kp (B : Nat) (w w' : World) : Prop where
  block : ∀ b, B ≤ b → b < w.heap.size → w'.heap[b]? = w.heap[b]?
  size : w.heap.size ≤ w'.heap.size

theorem Kp.cell {B : Nat} {w w' : World} (h : Kp B w w') {b o : Nat} (hb : B ≤ b) (hs : b < w.heap.size) : w'.cell? ⟨b, o, none⟩ = w.cell? ⟨b, o, none⟩ := World.cell?_of_block (w := w) (h.block b hb hs)
theorem Kp.frozen {B : Nat} {w w' : World} (h : Kp B w w') {b o : Nat} (hb : B ≤ b) (hs : b < w.heap.size) : w'.frozen? ⟨b, o, none⟩ = w.frozen? ⟨b, o, none⟩ := World.frozen?_of_block (w := w) (h.block b hb hs)

/-- A function value that answers g (all NaNs one) where D lets in; I n: what holds of the world when it has been asked n times; B: what is its own lies below. -/
structure Fun1 (fid : FuncId) (caps : Array Value) (B : Nat) (I : Nat → World → Prop) (D : Nat → Prop) (g : Nat → Nat) : Prop where
  enter : ∀ args w, (callFunc fid args).run Try.prog w = .ok (.enter fid args) w
  stable : ∀ n w w', I n w → Below B w w' → I n w'
  calls : ∀ n x w, I n w → n ≤ 1000 → B ≤ w.heap.size → F64 x → D x → Calls Try.prog fid (#[.float .f64 x] ++ caps) w fun e w' => ∃ r, e = .returned (.float .f64 r) ∧ F64 r ∧ Hd (cn r = g x) ∧ Hd (I (n + 1) w') ∧ Kp B w w'

/-- Root's answer. -/
def RootRet (t : Nat × Nat × Int) (I : Nat → World → Prop) (e : Ending) (w' : World) : Prop :=
  e = .returned (.tuple #[.float .f64 t.1, .int .i64 t.2.1, .int .i64 t.2.2]) ∧ I t.2.1 w'

theorem eq_nilFunc (fid : FuncId) (caps : Array Value) (w : World) : (binOp .eql 148 (.func (.func fid) #[] caps) .nilFunc).run Try.prog w = .ok (.bool false) w := by
  kernel_rfl

end Go.Proofs.Yteikihidblcljaa

/- Plain: what bisection finds is where the signs change. No program. -/
namespace Go.Proofs.Yteikihidblcljaa

/-- A value with the sign sa, and one with the other sign. -/
structure SgP (sa : Bool) (v : Nat) : Prop where
  nn : nn v = false
  nz : rk v ≠ 0
  sg : decide (0 < rk v) = sa
structure SgQ (sa : Bool) (v : Nat) : Prop where
  nn : nn v = false
  nz : rk v ≠ 0
  sg : decide (0 < rk v) ≠ sa

structure BisOk (g : Nat → Nat) (sa : Bool) (lo hi : Nat) (x : Nat) : Prop where
  f64 : F64 x
  nan : nn x = false
  le1 : rk lo ≤ rk x
  le2 : rk x ≤ rk hi
  why : (nn (g x) = false ∧ rk (g x) = 0) ∨ (SgP sa (g x) ∧ ∃ h, SgQ sa (g h) ∧ rk h = rk x + 1 ∧ rk h ≤ rk hi ∧ (h = hi ∨ h = atk (rk h)))

theorem bis_spec (g : Nat → Nat) (sa : Bool) (hi0 : Nat) : ∀ k lo hi c, F64 lo → nn lo = false → nn hi = false → rk lo < rk hi → rk hi ≤ rk hi0 → (hi = hi0 ∨ hi = atk (rk hi)) → rk hi - rk lo ≤ 2 ^ k → SgP sa (g lo) → SgQ sa (g hi) →
    (bis g sa k lo hi c).2.1 ≤ c + k ∧ c ≤ (bis g sa k lo hi c).2.1 ∧ (((bis g sa k lo hi c).2.2 = 91 ∧ (bis g sa k lo hi c).1 = 0 ∧ ∃ y, nn (g y) = true) ∨ ((bis g sa k lo hi c).2.2 = 0 ∧ BisOk g sa lo hi0 (bis g sa k lo hi c).1)) := by
  intro k
  induction k with
  | zero =>
    intro lo hi c hf h1 h2 hlt hle heq hg hp hq
    have e : (2 : Int) ^ 0 = 1 := rfl
    refine ⟨Nat.le_refl _, Nat.le_refl _, Or.inr ⟨rfl, hf, h1, Int.le_refl _, ?_, Or.inr ⟨hp, hi, hq, ?_, hle, heq⟩⟩⟩
    · show rk lo ≤ rk hi0; omega
    · show rk hi = rk lo + 1; omega
  | succ k ih =>
    intro lo hi c hf h1 h2 hlt hle heq hg hp hq
    obtain ⟨m1, m2, m3⟩ := md_rk h1 h2
    by_cases he : rk (md lo hi) = rk lo
    · rw [bis_stop _ _ _ _ _ _ he]
      refine ⟨by dsimp only; omega, Nat.le_refl _, Or.inr ⟨rfl, hf, h1, Int.le_refl _, ?_, Or.inr ⟨hp, hi, hq, ?_, hle, heq⟩⟩⟩
      · show rk lo ≤ rk hi0; omega
      · show rk hi = rk lo + 1; omega
    · obtain ⟨b1, b2, b3, b4⟩ := md_bd h1 h2 hlt he hg
      have hat : md lo hi = atk (rk (md lo hi)) := by rw [m1]; rfl
      cases hn : nn (g (md lo hi))
      · by_cases hz : rk (g (md lo hi)) = 0
        · rw [bis_zero _ _ _ _ _ _ he hn hz]
          exact ⟨by dsimp only; omega, by dsimp only; omega, Or.inr ⟨rfl, m2, m3, Int.le_of_lt b1, by show rk (md lo hi) ≤ rk hi0; omega, Or.inl ⟨hn, hz⟩⟩⟩
        · by_cases hs : decide (0 < rk (g (md lo hi))) = sa
          · rw [bis_up _ _ _ _ _ _ he hn hz hs]
            obtain ⟨r1, r2, r3⟩ := ih (md lo hi) hi (c + 1) m2 m3 h2 b2 hle heq b4 ⟨hn, hz, hs⟩ hq
            refine ⟨by omega, by omega, ?_⟩
            rcases r3 with r3 | ⟨r3, r4⟩
            · exact Or.inl r3
            · exact Or.inr ⟨r3, r4.f64, r4.nan, Int.le_trans (Int.le_of_lt b1) r4.le1, r4.le2, r4.why⟩
          · rw [bis_dn _ _ _ _ _ _ he hn hz hs]
            obtain ⟨r1, r2, r3⟩ := ih lo (md lo hi) (c + 1) hf h1 m3 b1 (by omega) (Or.inr hat) b3 hp ⟨hn, hz, hs⟩
            exact ⟨by omega, by omega, r3⟩
      · rw [bis_nan _ _ _ _ _ _ he hn]
        exact ⟨by dsimp only; omega, by dsimp only; omega, Or.inl ⟨rfl, rfl, _, hn⟩⟩

/-- What Root tells. -/
inductive RootIs (g : Nat → Nat) (lo hi : Nat) (t : Nat × Nat × Int) : Prop where
  | arg (h : okEnds lo hi = false) (e : t = (0, 0, 1))
  | value (h : okEnds lo hi = true) (n : t.2.1 ≤ 66) (x : t.1 = 0) (e : t.2.2 = 91) (w : ∃ y, nn (g y) = true)
  | zero (h : okEnds lo hi = true) (n : t.2.1 ≤ 66) (e : t.2.2 = 0) (f : F64 t.1) (nan : nn t.1 = false) (l1 : rk lo ≤ rk t.1) (l2 : rk t.1 ≤ rk hi) (v : nn (g t.1) = false) (z : rk (g t.1) = 0)
  | bracket (h : okEnds lo hi = true) (e : t = (0, 2, 120)) (a : nn (g lo) = false) (b : nn (g hi) = false) (az : rk (g lo) ≠ 0) (bz : rk (g hi) ≠ 0) (s : decide (0 < rk (g lo)) = decide (0 < rk (g hi)))
  | found (h : okEnds lo hi = true) (n : t.2.1 ≤ 66) (e : t.2.2 = 0) (f : F64 t.1) (nan : nn t.1 = false) (l1 : rk lo ≤ rk t.1) (l2 : rk t.1 ≤ rk hi)
      (sa : Bool) (p : SgP sa (g t.1)) (u : Nat) (q : SgQ sa (g u)) (up : rk u = rk t.1 + 1) (le : rk u ≤ rk hi) (w : u = hi ∨ u = atk (rk u)) (s : decide (0 < rk (g lo)) = sa)

theorem okEnds_of {lo hi : Nat} (h : okEnds lo hi = true) : fin lo = true ∧ fin hi = true ∧ rk lo < rk hi := by
  unfold okEnds at h
  simp only [Bool.and_eq_true, decide_eq_true_eq] at h
  exact ⟨h.1.1, h.1.2, h.2⟩

theorem gap64 {x y : Nat} (h1 : nn x = false) (h2 : nn y = false) : rk y - rk x ≤ 2 ^ 64 := by
  have a := rk_bd x h1
  have b := rk_bd y h2
  omega

theorem root_is (g : Nat → Nat) (lo hi : Nat) (hlo : F64 lo) (hhi : F64 hi) : RootIs g lo hi (root g lo hi) := by
  unfold root
  cases hok : okEnds lo hi
  · exact .arg hok rfl
  obtain ⟨h1, h2, h3⟩ := okEnds_of hok
  have n1 := nn_fin lo h1
  have n2 := nn_fin hi h2
  rw [if_neg (by simp)]
  cases ha : nn (g lo)
  · rw [if_neg (by simp)]
    cases hb : nn (g hi)
    · rw [if_neg (by simp)]
      by_cases az : rk (g lo) = 0
      · rw [if_pos az]
        exact .zero hok (by dsimp only; omega) rfl hlo n1 (Int.le_refl _) (Int.le_of_lt h3) ha az
      · rw [if_neg az]
        by_cases bz : rk (g hi) = 0
        · rw [if_pos bz]
          exact .zero hok (by dsimp only; omega) rfl hhi n2 (Int.le_of_lt h3) (Int.le_refl _) hb bz
        · rw [if_neg bz]
          by_cases hs : decide (0 < rk (g lo)) = decide (0 < rk (g hi))
          · rw [if_pos hs]
            exact .bracket hok rfl ha hb az bz hs
          · rw [if_neg hs]
            obtain ⟨r1, r2, r3⟩ := bis_spec g (decide (0 < rk (g lo))) hi 64 lo hi 2 hlo n1 n2 h3 (Int.le_refl _) (Or.inl rfl) (gap64 n1 n2) ⟨ha, az, rfl⟩ ⟨hb, bz, fun h => hs h.symm⟩
            rcases r3 with ⟨r3, r4, r5⟩ | ⟨r3, r4⟩
            · exact .value hok r1 r4 r3 r5
            · rcases r4.why with ⟨v, z⟩ | ⟨p, u, q, up, le, w⟩
              · exact .zero hok r1 r3 r4.f64 r4.nan r4.le1 r4.le2 v z
              · exact .found hok r1 r3 r4.f64 r4.nan r4.le1 r4.le2 _ p u q up le w rfl
    · rw [if_pos rfl]
      exact .value hok (by dsimp only; omega) rfl rfl ⟨_, hb⟩
  · rw [if_pos rfl]
    exact .value hok (by dsimp only; omega) rfl rfl ⟨_, ha⟩

end Go.Proofs.Yteikihidblcljaa

/- The walk of solve.Root between two ends. -/
namespace Go.Proofs.Yteikihidblcljaa
open Go.RowKit

theorem gnn {r v : Nat} (h : cn r = v) : nn v = nn r := by rw [← h, nn_cn]
theorem grk {r v : Nat} (h : cn r = v) (hn : nn r = false) : rk v = rk r := by rw [← h, cn_of r hn]
theorem F64_0 : F64 0 := ⟨by decide⟩
theorem nn_0 : nn 0 = false := by unfold nn mg INF; decide
theorem rk_0 : rk 0 = 0 := by unfold rk ng mg; decide
theorem feq0 (x : Nat) (hx : F64 x) (hn : nn x = false) : (FloatKind.f64.format.order x 0 == some .eq) = decide (rk x = 0) := by
  rw [feq x 0 hx F64_0, hn, nn_0, rk_0]; rfl
theorem fgt0 (x : Nat) (hx : F64 x) (hn : nn x = false) : (FloatKind.f64.format.order x 0 == some .gt) = decide (0 < rk x) := by
  rw [fgt x 0 hx F64_0, hn, nn_0, rk_0]; rfl

theorem root_e1 {g : Nat → Nat} {lo hi : Nat} (h : okEnds lo hi = true) (h1 : nn (g lo) = true) : root g lo hi = (0, 1, 91) := by
  unfold root; rw [if_neg (by simp [h]), if_pos h1]
theorem root_e2 {g : Nat → Nat} {lo hi : Nat} (h : okEnds lo hi = true) (h1 : nn (g lo) = false) (h2 : nn (g hi) = true) : root g lo hi = (0, 2, 91) := by
  unfold root; rw [if_neg (by simp [h]), if_neg (by simp [h1]), if_pos h2]
theorem root_e3 {g : Nat → Nat} {lo hi : Nat} (h : okEnds lo hi = true) (h1 : nn (g lo) = false) (h2 : nn (g hi) = false) (h3 : rk (g lo) = 0) : root g lo hi = (lo, 2, 0) := by
  unfold root; rw [if_neg (by simp [h]), if_neg (by simp [h1]), if_neg (by simp [h2]), if_pos h3]
theorem root_e4 {g : Nat → Nat} {lo hi : Nat} (h : okEnds lo hi = true) (h1 : nn (g lo) = false) (h2 : nn (g hi) = false) (h3 : ¬ rk (g lo) = 0) (h4 : rk (g hi) = 0) : root g lo hi = (hi, 2, 0) := by
  unfold root; rw [if_neg (by simp [h]), if_neg (by simp [h1]), if_neg (by simp [h2]), if_neg h3, if_pos h4]
theorem root_e5 {g : Nat → Nat} {lo hi : Nat} (h : okEnds lo hi = true) (h1 : nn (g lo) = false) (h2 : nn (g hi) = false) (h3 : ¬ rk (g lo) = 0) (h4 : ¬ rk (g hi) = 0) (h5 : decide (0 < rk (g lo)) = decide (0 < rk (g hi))) : root g lo hi = (0, 2, 120) := by
  unfold root; rw [if_neg (by simp [h]), if_neg (by simp [h1]), if_neg (by simp [h2]), if_neg h3, if_neg h4, if_pos h5]
theorem root_e6 {g : Nat → Nat} {lo hi : Nat} (h : okEnds lo hi = true) (h1 : nn (g lo) = false) (h2 : nn (g hi) = false) (h3 : ¬ rk (g lo) = 0) (h4 : ¬ rk (g hi) = 0) (h5 : ¬ decide (0 < rk (g lo)) = decide (0 < rk (g hi))) : root g lo hi = bis g (decide (0 < rk (g lo))) 64 lo hi 2 := by
  unfold root; rw [if_neg (by simp [h]), if_neg (by simp [h1]), if_neg (by simp [h2]), if_neg h3, if_neg h4, if_neg h5]

end Go.Proofs.Yteikihidblcljaa

/- The walk of solve.Poly. -/
namespace Go.Proofs.Yteikihidblcljaa
open Go.RowKit

theorem Fls.below {w w' : World} {a : Option Addr} {l : List Nat} (h : Fls w a l) (hb : ∀ b o v, w.cell? ⟨b, o, none⟩ = some v → w'.cell? ⟨b, o, none⟩ = some v) : Fls w' a l :=
  ⟨h.nil, fun b o v e i hi => ⟨(h.cell b o v e i hi).1, hb _ _ _ (h.cell b o v e i hi).2⟩, h.wf, h.len⟩

theorem cell_of_below {B : Nat} {w w' : World} (h : Below B w w') (hB : w.heap.size ≤ B) {b o : Nat} {v : Value} (hc : w.cell? ⟨b, o, none⟩ = some v) : w'.cell? ⟨b, o, none⟩ = some v := by
  rw [h.cell (p := ⟨b, o, none⟩) (Nat.lt_of_lt_of_le (World.block_lt_of_cell? _ _ hc) hB), hc]

theorem enter_of {P : Program} {f : FuncId} {fn : Func} {c : Code} (hf : P.funcs[f]? = some fn) (hname : (fn.name == "runtime.NumGoroutine") = false) (hb : fn.body = some c) (args : Array Value) (w : World) :
    (callFunc f args).run P w = .ok (.enter f args) w := by
  have h1 : fn.name ≠ "runtime.NumGoroutine" := by simpa using hname
  simp [callFunc, hf, h1, hb]

/-- The polynomial of the list l, all NaNs one. -/
def gP (l : List Nat) (x : Nat) : Nat := horn (l.map cn) (cn x)

/-- Poly's answer. -/
def PolyRet (t : Nat × Nat × Int) (w : World) (e : Ending) (w' : World) : Prop :=
  e = .returned (.tuple #[.float .f64 t.1, .int .i64 t.2.1, .int .i64 t.2.2]) ∧ Below w.heap.size w w'

end Go.Proofs.Yteikihidblcljaa

/- The walks of the reference's small functions on bits: Number, Rank, Lt, At, Mid, Size, Negative, IsInf, Flip. -/
namespace Go.Proofs.Yteikihidblcljaa
open Go.RowKit

theorem fin_int (x : Nat) : decide ((mg x : Int) < 9218868437227405312) = fin x := by
  unfold fin INF; rw [Bool.eq_iff_iff]; simp; omega
theorem ng_int (x : Nat) : decide ((9223372036854775808 : Int) ≤ x) = ng x := by
  unfold ng; rw [Bool.eq_iff_iff]; simp; omega

set_option maxHeartbeats 800000 in
theorem rNumber_any (u : Nat) (hu : F64 u) (w : World) :
    Calls Try.prog 64 #[.int .u64 u] w fun e w' => e = .returned (.bool (fin u)) ∧ w = w' := by
  have h1 := bits_mg u hu
  have H := Hd.mk (fin_int u)
  go_enter Try.func64, Try.ntmps64
  go_wp2
  go_ret
  exact ⟨ret_bool H.out, rfl⟩

set_option maxHeartbeats 800000 in
theorem rSize_any (u : Nat) (hu : F64 u) (w : World) :
    Calls Try.prog 110 #[.int .u64 u] w fun e w' => e = .returned (.int .u64 (mg u)) ∧ w = w' := by
  have h1 := bits_mg u hu
  go_enter Try.func110, Try.ntmps110
  go_wp2
  go_ret
  exact ⟨rfl, rfl⟩

set_option maxHeartbeats 800000 in
theorem rNegative_any (u : Nat) (w : World) :
    Calls Try.prog 59 #[.int .u64 u] w fun e w' => e = .returned (.bool (ng u)) ∧ w = w' := by
  have H := Hd.mk (ng_int u)
  go_enter Try.func59, Try.ntmps59
  go_wp2
  go_ret
  exact ⟨ret_bool H.out, rfl⟩

theorem pos_bits {x : Nat} (hx : F64 x) (h : ng x = false) : (x : Int) = mg x ∧ decide ((9223372036854775808 : Int) ≤ x) = false := by
  have := hx.out; unfold ng at h; unfold mg; simp at h; refine ⟨by omega, by simp; omega⟩
theorem neg_bits {x : Nat} (hx : F64 x) (h : ng x = true) : IntKind.u64.wrap ((x : Int) - 9223372036854775808) = mg x ∧ decide ((9223372036854775808 : Int) ≤ x) = true := by
  have := hx.out; unfold ng at h; unfold mg; simp at h; rw [IntKind.wrap_u64]; refine ⟨by omega, by simp; omega⟩

/-- Below, of bits: false of a NaN. -/
def ltB (x y : Nat) : Bool := !nn x && !nn y && decide (rk x < rk y)

end Go.Proofs.Yteikihidblcljaa

/- The walks of tenorref12: a search that goes on. -/
namespace Go.Proofs.Yteikihidblcljaa
open Go.RowKit
set_option linter.unusedSimpArgs false
set_option linter.unusedVariables false

theorem cellb {B : Nat} {w w' : World} (hb : Below B w w') (b : Nat) (h : b < B) : (∀ o, w'.cell? ⟨b, o, none⟩ = w.cell? ⟨b, o, none⟩) ∧ (∀ o, w'.frozen? ⟨b, o, none⟩ = w.frozen? ⟨b, o, none⟩) :=
  ⟨fun o => hb.cell (p := ⟨b, o, none⟩) h, fun o => hb.frozen (p := ⟨b, o, none⟩) h⟩

/-- Does halving end? -/
def hS (lo hi : Nat) : Bool := rk (md lo hi) == rk lo
def hAsk (lo hi ask : Nat) : Nat := if hS lo hi then ask else md lo hi
def hDone (lo hi : Nat) (done : Bool) : Bool := hS lo hi || done
def hX (lo hi x : Nat) : Nat := if hS lo hi then lo else x
def hE (lo hi : Nat) (e : Int) : Int := if hS lo hi then 0 else e
theorem h_stop {lo hi ask x : Nat} {done : Bool} {e : Int} (h : hS lo hi = true) : ask = hAsk lo hi ask ∧ true = hDone lo hi done ∧ lo = hX lo hi x ∧ 0 = hE lo hi e := by
  unfold hAsk hDone hX hE; rw [h]; exact ⟨rfl, rfl, rfl, rfl⟩
theorem h_go {lo hi ask x : Nat} {done : Bool} {e : Int} (h : hS lo hi = false) : md lo hi = hAsk lo hi ask ∧ done = hDone lo hi done ∧ x = hX lo hi x ∧ e = hE lo hi e := by
  unfold hAsk hDone hX hE; rw [h]; exact ⟨rfl, rfl, rfl, rfl⟩

theorem ret_val {lo hi : Nat} {neg : Bool} {calls : Int} {ask ask' first : Nat} {done done' : Bool} {x x' : Nat} {e e' : Int} (h1 : ask = ask') (h2 : done = done') (h3 : x = x') (h4 : e = e') :
    Ending.returned (.agg #[.int .u64 lo, .int .u64 hi, .bool neg, .int .i64 calls, .int .u64 ask, .int .u64 first, .bool done, .int .u64 x, .int .i64 e]) = .returned (.agg #[.int .u64 lo, .int .u64 hi, .bool neg, .int .i64 calls, .int .u64 ask', .int .u64 first, .bool done', .int .u64 x', .int .i64 e']) := by rw [h1, h2, h3, h4]

end Go.Proofs.Yteikihidblcljaa
