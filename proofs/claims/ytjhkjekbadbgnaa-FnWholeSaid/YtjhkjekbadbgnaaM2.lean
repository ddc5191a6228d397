/- Put together out of several texts: Bi Ro Bs Rp Po Rk Se. -/
import Derived.Test.YtjhkjekbadbgnaaM1
import Derived.BigQuiet
import Derived.Deep.LoopGhost
import Derived.WalkSmall
import Derived.Deep.QuietTactic

/- Plain: bisection. No program. -/
namespace Go.Proofs.Ytjhkjekbadbgnaa

/-- The middle of two by their ranks. -/
def md (lo hi : Nat) : Nat := atk ((rk lo + rk hi) / 2)

/-- Bisection of g, with a bound on the rounds; sa: is g above 0 at the left end? What is found, how often was asked, the error. -/
def bis (g : Nat → Nat) (sa : Bool) : Nat → Nat → Nat → Nat → Nat × Nat × Int
  | 0, lo, _, c => (lo, c, 0)
  | k + 1, lo, hi, c =>
    if rk (md lo hi) = rk lo then (lo, c, 0)
    else if nn (g (md lo hi)) then (0, c + 1, 91)
    else if rk (g (md lo hi)) = 0 then (md lo hi, c + 1, 0)
    else if decide (0 < rk (g (md lo hi))) = sa then bis g sa k (md lo hi) hi (c + 1)
    else bis g sa k lo (md lo hi) (c + 1)

def okEnds (lo hi : Nat) : Bool := fin lo && fin hi && decide (rk lo < rk hi)

def root (g : Nat → Nat) (lo hi : Nat) : Nat × Nat × Int :=
  if okEnds lo hi = false then (0, 0, 1)
  else if nn (g lo) then (0, 1, 91)
  else if nn (g hi) then (0, 2, 91)
  else if rk (g lo) = 0 then (lo, 2, 0)
  else if rk (g hi) = 0 then (hi, 2, 0)
  else if decide (0 < rk (g lo)) = decide (0 < rk (g hi)) then (0, 2, 120)
  else bis g (decide (0 < rk (g lo))) 64 lo hi 2

theorem md_rk {lo hi : Nat} (h1 : nn lo = false) (h2 : nn hi = false) : rk (md lo hi) = (rk lo + rk hi) / 2 ∧ F64 (md lo hi) ∧ nn (md lo hi) = false := by
  have a := rk_bd lo h1
  have b := rk_bd hi h2
  unfold md
  exact ⟨rk_atk _ (by omega) (by omega), atk_F64 _ (by omega) (by omega), nn_atk _ (by omega) (by omega)⟩

theorem bis_stop (g : Nat → Nat) (sa : Bool) (k lo hi c : Nat) (h : rk (md lo hi) = rk lo) : bis g sa k lo hi c = (lo, c, 0) := by
  cases k with
  | zero => rfl
  | succ k => unfold bis; rw [if_pos h]
theorem bis_nan (g : Nat → Nat) (sa : Bool) (k lo hi c : Nat) (h : ¬ rk (md lo hi) = rk lo) (h1 : nn (g (md lo hi)) = true) : bis g sa (k + 1) lo hi c = (0, c + 1, 91) := by
  rw [bis, if_neg h, if_pos h1]
theorem bis_zero (g : Nat → Nat) (sa : Bool) (k lo hi c : Nat) (h : ¬ rk (md lo hi) = rk lo) (h1 : nn (g (md lo hi)) = false) (h2 : rk (g (md lo hi)) = 0) : bis g sa (k + 1) lo hi c = (md lo hi, c + 1, 0) := by
  rw [bis, if_neg h, if_neg (by simp [h1]), if_pos h2]
theorem bis_up (g : Nat → Nat) (sa : Bool) (k lo hi c : Nat) (h : ¬ rk (md lo hi) = rk lo) (h1 : nn (g (md lo hi)) = false) (h2 : ¬ rk (g (md lo hi)) = 0) (h3 : decide (0 < rk (g (md lo hi))) = sa) : bis g sa (k + 1) lo hi c = bis g sa k (md lo hi) hi (c + 1) := by
  rw [bis, if_neg h, if_neg (by simp [h1]), if_neg h2, if_pos h3]
theorem bis_dn (g : Nat → Nat) (sa : Bool) (k lo hi c : Nat) (h : ¬ rk (md lo hi) = rk lo) (h1 : nn (g (md lo hi)) = false) (h2 : ¬ rk (g (md lo hi)) = 0) (h3 : ¬ decide (0 < rk (g (md lo hi))) = sa) : bis g sa (k + 1) lo hi c = bis g sa k lo (md lo hi) (c + 1) := by
  rw [bis, if_neg h, if_neg (by simp [h1]), if_neg h2, if_neg h3]

theorem md_bd {lo hi : Nat} (h1 : nn lo = false) (h2 : nn hi = false) (hlt : rk lo < rk hi) {k : Nat} (he : ¬ rk (md lo hi) = rk lo) (hg : rk hi - rk lo ≤ 2 ^ (k + 1)) :
    rk lo < rk (md lo hi) ∧ rk (md lo hi) < rk hi ∧ rk (md lo hi) - rk lo ≤ 2 ^ k ∧ rk hi - rk (md lo hi) ≤ 2 ^ k := by
  rw [(md_rk h1 h2).1] at *
  rw [Int.pow_succ] at hg
  generalize (2 : Int) ^ k = p at *
  omega

theorem gap_0 {lo hi : Nat} (h1 : nn lo = false) (h2 : nn hi = false) (hlt : rk lo < rk hi) (hg : rk hi - rk lo ≤ 2 ^ 0) : rk (md lo hi) = rk lo := by
  rw [(md_rk h1 h2).1]
  have : (2 : Int) ^ 0 = 1 := rfl
  omega

end Go.Proofs.Ytjhkjekbadbgnaa

/- The walk of solve.Root, whatever the function is. -/
namespace Go.Proofs.Ytjhkjekbadbgnaa
open Go.RowKit

/-- The blocks from B on are as they were. -/
structure Kp (B : Nat) (w w' : World) : Prop where
  block : ∀ b, B ≤ b → b < w.heap.size → w'.heap[b]? = w.heap[b]?
  size : w.heap.size ≤ w'.heap.size

theorem Kp.cell {B : Nat} {w w' : World} (h : Kp B w w') {b o : Nat} (hb : B ≤ b) (hs : b < w.heap.size) : w'.cell? ⟨b, o, none⟩ = w.cell? ⟨b, o, none⟩ := World.cell?_of_block (w := w) (h.block b hb hs)
theorem Kp.frozen {B : Nat} {w w' : World} (h : Kp B w w') {b o : Nat} (hb : B ≤ b) (hs : b < w.heap.size) : w'.frozen? ⟨b, o, none⟩ = w.frozen? ⟨b, o, none⟩ := World.frozen?_of_block (w := w) (h.block b hb hs)

/-- A function value that answers g (all NaNs one) where D lets in; I n: what holds of the world when it has been asked n times; B: what is its own lies below. -/
structure Fun1 (fid : FuncId) (caps : Array Value) (B : Nat) (I : Nat → World → Prop) (D : Nat → Prop) (g : Nat → Nat) : Prop where
  enter : ∀ args w, (callFunc fid args).run Try.prog w = .ok (.enter fid args) w
  stable : ∀ n w w', I n w → Below B w w' → I n w'
  calls : ∀ n x w, I n w → n ≤ 1000 → B ≤ w.heap.size → F64 x → D x → Calls Try.prog fid (#[.float .f64 x] ++ caps) w fun e w' => ∃ r, e = .returned (.float .f64 r) ∧ F64 r ∧ Hd (cn r = g x) ∧ Hd (I (n + 1) w') ∧ Kp B w w'

set_option maxHeartbeats 800000 in
theorem ask_any {fid : FuncId} {caps : Array Value} {B : Nat} {I : Nat → World → Prop} {D : Nat → Prop} {g : Nat → Nat} (hf : Fun1 fid caps B I D g)
    (n : Nat) (x : Nat) (b1 b2 : Nat) (w : World) (hI : I n w) (hx : F64 x) (hD : D x) (hb1 : B ≤ b1) (hb2 : B ≤ b2) (hne : ¬ b1 = b2) (hn : n ≤ 1000)
    (hc : w.cell? ⟨b1, 0, none⟩ = some (.int .i64 n)) (hfz : w.frozen? ⟨b1, 0, none⟩ = false) (hfc : w.cell? ⟨b2, 0, none⟩ = some (.func (.func fid) #[] caps)) :
    Calls Try.prog 41 #[.float .f64 x, .pointer (some ⟨b1, 0, none⟩), .pointer (some ⟨b2, 0, none⟩)] w fun e w' => ∃ r, e = .returned (.float .f64 r) ∧ F64 r ∧ Hd (cn r = g x) ∧ Hd (I (n + 1) w') ∧
      w'.cell? ⟨b1, 0, none⟩ = some (.int .i64 (n + 1 : Nat)) ∧ w'.frozen? ⟨b1, 0, none⟩ = false ∧ w'.cell? ⟨b2, 0, none⟩ = some (.func (.func fid) #[] caps) ∧ w.heap.size ≤ w'.heap.size := by
  have HF := Hd.mk hf
  have HI := Hd.mk hI
  have hne' : ¬ b2 = b1 := fun h => hne h.symm
  have heg := hf.enter
  clear hf hI
  go_enter Try.func41, Try.ntmps41
  go_wp2_with fail
  have hsz : b1 < w.heap.size := World.block_lt_of_cell? _ _ hc
  have hsz2 : b2 < w.heap.size := World.block_lt_of_cell? _ _ hfc
  have hI2 : I n (w.setCell ⟨b1, 0, none⟩ (.int .i64 ((n : Int) + 1))) := HF.out.stable n w _ HI.out ((Below.refl B w).setCell hb1 _)
  have hc2 : (w.setCell ⟨b1, 0, none⟩ (.int .i64 ((n : Int) + 1))).cell? ⟨b1, 0, none⟩ = some (.int .i64 ((n : Int) + 1)) := World.cell?_setCell_same w _ _ hc
  have hfz2 : (w.setCell ⟨b1, 0, none⟩ (.int .i64 ((n : Int) + 1))).frozen? ⟨b1, 0, none⟩ = false := by go_simp
  have hfc2 : (w.setCell ⟨b1, 0, none⟩ (.int .i64 ((n : Int) + 1))).cell? ⟨b2, 0, none⟩ = some (.func (.func fid) #[] caps) := by go_simp
  have hsize : (w.setCell ⟨b1, 0, none⟩ (.int .i64 ((n : Int) + 1))).heap.size = w.heap.size := by simp [World.setCell]
  refine (HF.out.calls n x _ hI2 hn (by omega) hx hD).mono ?_
  generalize (w.setCell ⟨b1, 0, none⟩ (.int .i64 ((n : Int) + 1))) = w2 at *
  clear hI2
  rintro e w' ⟨r, rfl, hr, hcr, hI', hK⟩
  have HS := Hd.mk hsize
  clear hsize
  go_wp2
  go_ret
  refine ⟨r, rfl, hr, hcr, hI', ?_, ?_, ?_, ?_⟩
  · rw [hK.cell hb1 (by rw [HS.out]; exact hsz), hc2]; rfl
  · rw [hK.frozen hb1 (by rw [HS.out]; exact hsz), hfz2]
  · rw [hK.cell hb2 (by rw [HS.out]; exact hsz2), hfc2]
  · have := hK.size; rw [HS.out] at this; exact this


/-- Root's answer. -/
def RootRet (t : Nat × Nat × Int) (I : Nat → World → Prop) (e : Ending) (w' : World) : Prop :=
  e = .returned (.tuple #[.float .f64 t.1, .int .i64 t.2.1, .int .i64 t.2.2]) ∧ I t.2.1 w'

theorem eq_nilFunc (fid : FuncId) (caps : Array Value) (w : World) : (binOp .eql 38 (.func (.func fid) #[] caps) .nilFunc).run Try.prog w = .ok (.bool false) w := by
  kernel_rfl

set_option maxHeartbeats 800000 in
theorem root_arg {fid : FuncId} {caps : Array Value} {B : Nat} {I : Nat → World → Prop} {D : Nat → Prop} {g : Nat → Nat} (hf : Fun1 fid caps B I D g)
    (lo hi : Nat) (hlo : F64 lo) (hhi : F64 hi) (w : World) (hB : B ≤ w.heap.size) (hI : I 0 w) (hok : okEnds lo hi = false) :
    Calls Try.prog 20 #[.func (.func fid) #[] caps, .float .f64 lo, .float .f64 hi] w (RootRet (root g lo hi) I) := by
  have H : Hd (root g lo hi = (0, 0, 1)) := ⟨by unfold root; rw [if_pos hok]⟩
  have HF := Hd.mk hf
  have HI := Hd.mk hI
  have heq := eq_nilFunc fid caps
  clear hf hI
  cases h1 : fin lo
  · clear hok
    go_enter Try.func20, Try.ntmps20
    go_wp2_with fail
    refine (number_any _ hlo _).mono ?_; rintro e w' ⟨rfl, rfl⟩
    go_wp2_with fail
    refine bodyPost_ret (v := .tuple #[.float .f64 0, .int .i64 0, .int .i64 1]) (by simp [results, Try.results20, go_sem]) rfl ⟨by rw [H.out]; rfl, by rw [H.out]; exact HF.out.stable 0 w _ HI.out (((Below.refl _ _).alloc hB _).alloc (by simp; omega) _)⟩
  · cases h2 : fin hi
    · clear hok
      go_enter Try.func20, Try.ntmps20
      go_wp2_with fail
      refine (number_any _ hlo _).mono ?_; rintro e w' ⟨rfl, rfl⟩
      go_wp2_with fail
      refine (number_any _ hhi _).mono ?_; rintro e w' ⟨rfl, rfl⟩
      go_wp2_with fail
      refine bodyPost_ret (v := .tuple #[.float .f64 0, .int .i64 0, .int .i64 1]) (by simp [results, Try.results20, go_sem]) rfl ⟨by rw [H.out]; rfl, by rw [H.out]; exact HF.out.stable 0 w _ HI.out (((Below.refl _ _).alloc hB _).alloc (by simp; omega) _)⟩
    · have h3 : (FloatKind.f64.format.order lo hi == some .lt) = false := by
        rw [flt lo hi hlo hhi, nn_fin lo h1, nn_fin hi h2]
        unfold okEnds at hok; rw [h1, h2] at hok; simpa using hok
      clear hok
      go_enter Try.func20, Try.ntmps20
      go_wp2_with fail
      refine (number_any _ hlo _).mono ?_; rintro e w' ⟨rfl, rfl⟩
      go_wp2_with fail
      refine (number_any _ hhi _).mono ?_; rintro e w' ⟨rfl, rfl⟩
      go_wp2_with fail
      refine bodyPost_ret (v := .tuple #[.float .f64 0, .int .i64 0, .int .i64 1]) (by simp [results, Try.results20, go_sem]) rfl ⟨by rw [H.out]; rfl, by rw [H.out]; exact HF.out.stable 0 w _ HI.out (((Below.refl _ _).alloc hB _).alloc (by simp; omega) _)⟩

end Go.Proofs.Ytjhkjekbadbgnaa

/- Plain: what bisection finds is where the signs change. No program. -/
namespace Go.Proofs.Ytjhkjekbadbgnaa

/-- A value with the sign sa, and one with the other sign. -/
structure SgP (sa : Bool) (v : Nat) : Prop where
  nn : nn v = false
  nz : rk v ≠ 0
  sg : decide (0 < rk v) = sa
structure SgQ (sa : Bool) (v : Nat) : Prop where
  nn : nn v = false
  nz : rk v ≠ 0
  sg : decide (0 < rk v) ≠ sa

structure BisOk (g : Nat → Nat) (sa : Bool) (lo hi : Nat) (x : Nat) : Prop where
  f64 : F64 x
  nan : nn x = false
  le1 : rk lo ≤ rk x
  le2 : rk x ≤ rk hi
  why : (nn (g x) = false ∧ rk (g x) = 0) ∨ (SgP sa (g x) ∧ ∃ h, SgQ sa (g h) ∧ rk h = rk x + 1 ∧ rk h ≤ rk hi ∧ (h = hi ∨ h = atk (rk h)))

theorem bis_spec (g : Nat → Nat) (sa : Bool) (hi0 : Nat) : ∀ k lo hi c, F64 lo → nn lo = false → nn hi = false → rk lo < rk hi → rk hi ≤ rk hi0 → (hi = hi0 ∨ hi = atk (rk hi)) → rk hi - rk lo ≤ 2 ^ k → SgP sa (g lo) → SgQ sa (g hi) →
    (bis g sa k lo hi c).2.1 ≤ c + k ∧ c ≤ (bis g sa k lo hi c).2.1 ∧ (((bis g sa k lo hi c).2.2 = 91 ∧ (bis g sa k lo hi c).1 = 0 ∧ ∃ y, nn (g y) = true) ∨ ((bis g sa k lo hi c).2.2 = 0 ∧ BisOk g sa lo hi0 (bis g sa k lo hi c).1)) := by
  intro k
  induction k with
  | zero =>
    intro lo hi c hf h1 h2 hlt hle heq hg hp hq
    have e : (2 : Int) ^ 0 = 1 := rfl
    refine ⟨Nat.le_refl _, Nat.le_refl _, Or.inr ⟨rfl, hf, h1, Int.le_refl _, ?_, Or.inr ⟨hp, hi, hq, ?_, hle, heq⟩⟩⟩
    · show rk lo ≤ rk hi0; omega
    · show rk hi = rk lo + 1; omega
  | succ k ih =>
    intro lo hi c hf h1 h2 hlt hle heq hg hp hq
    obtain ⟨m1, m2, m3⟩ := md_rk h1 h2
    by_cases he : rk (md lo hi) = rk lo
    · rw [bis_stop _ _ _ _ _ _ he]
      refine ⟨by dsimp only; omega, Nat.le_refl _, Or.inr ⟨rfl, hf, h1, Int.le_refl _, ?_, Or.inr ⟨hp, hi, hq, ?_, hle, heq⟩⟩⟩
      · show rk lo ≤ rk hi0; omega
      · show rk hi = rk lo + 1; omega
    · obtain ⟨b1, b2, b3, b4⟩ := md_bd h1 h2 hlt he hg
      have hat : md lo hi = atk (rk (md lo hi)) := by rw [m1]; rfl
      cases hn : nn (g (md lo hi))
      · by_cases hz : rk (g (md lo hi)) = 0
        · rw [bis_zero _ _ _ _ _ _ he hn hz]
          exact ⟨by dsimp only; omega, by dsimp only; omega, Or.inr ⟨rfl, m2, m3, Int.le_of_lt b1, by show rk (md lo hi) ≤ rk hi0; omega, Or.inl ⟨hn, hz⟩⟩⟩
        · by_cases hs : decide (0 < rk (g (md lo hi))) = sa
          · rw [bis_up _ _ _ _ _ _ he hn hz hs]
            obtain ⟨r1, r2, r3⟩ := ih (md lo hi) hi (c + 1) m2 m3 h2 b2 hle heq b4 ⟨hn, hz, hs⟩ hq
            refine ⟨by omega, by omega, ?_⟩
            rcases r3 with r3 | ⟨r3, r4⟩
            · exact Or.inl r3
            · exact Or.inr ⟨r3, r4.f64, r4.nan, Int.le_trans (Int.le_of_lt b1) r4.le1, r4.le2, r4.why⟩
          · rw [bis_dn _ _ _ _ _ _ he hn hz hs]
            obtain ⟨r1, r2, r3⟩ := ih lo (md lo hi) (c + 1) hf h1 m3 b1 (by omega) (Or.inr hat) b3 hp ⟨hn, hz, hs⟩
            exact ⟨by omega, by omega, r3⟩
      · rw [bis_nan _ _ _ _ _ _ he hn]
        exact ⟨by dsimp only; omega, by dsimp only; omega, Or.inl ⟨rfl, rfl, _, hn⟩⟩

/-- What Root tells. -/
inductive RootIs (g : Nat → Nat) (lo hi : Nat) (t : Nat × Nat × Int) : Prop where
  | arg (h : okEnds lo hi = false) (e : t = (0, 0, 1))
  | value (h : okEnds lo hi = true) (n : t.2.1 ≤ 66) (x : t.1 = 0) (e : t.2.2 = 91) (w : ∃ y, nn (g y) = true)
  | zero (h : okEnds lo hi = true) (n : t.2.1 ≤ 66) (e : t.2.2 = 0) (f : F64 t.1) (nan : nn t.1 = false) (l1 : rk lo ≤ rk t.1) (l2 : rk t.1 ≤ rk hi) (v : nn (g t.1) = false) (z : rk (g t.1) = 0)
  | bracket (h : okEnds lo hi = true) (e : t = (0, 2, 120)) (a : nn (g lo) = false) (b : nn (g hi) = false) (az : rk (g lo) ≠ 0) (bz : rk (g hi) ≠ 0) (s : decide (0 < rk (g lo)) = decide (0 < rk (g hi)))
  | found (h : okEnds lo hi = true) (n : t.2.1 ≤ 66) (e : t.2.2 = 0) (f : F64 t.1) (nan : nn t.1 = false) (l1 : rk lo ≤ rk t.1) (l2 : rk t.1 ≤ rk hi)
      (sa : Bool) (p : SgP sa (g t.1)) (u : Nat) (q : SgQ sa (g u)) (up : rk u = rk t.1 + 1) (le : rk u ≤ rk hi) (w : u = hi ∨ u = atk (rk u)) (s : decide (0 < rk (g lo)) = sa)

theorem okEnds_of {lo hi : Nat} (h : okEnds lo hi = true) : fin lo = true ∧ fin hi = true ∧ rk lo < rk hi := by
  unfold okEnds at h
  simp only [Bool.and_eq_true, decide_eq_true_eq] at h
  exact ⟨h.1.1, h.1.2, h.2⟩

theorem gap64 {x y : Nat} (h1 : nn x = false) (h2 : nn y = false) : rk y - rk x ≤ 2 ^ 64 := by
  have a := rk_bd x h1
  have b := rk_bd y h2
  omega

theorem root_is (g : Nat → Nat) (lo hi : Nat) (hlo : F64 lo) (hhi : F64 hi) : RootIs g lo hi (root g lo hi) := by
  unfold root
  cases hok : okEnds lo hi
  · exact .arg hok rfl
  obtain ⟨h1, h2, h3⟩ := okEnds_of hok
  have n1 := nn_fin lo h1
  have n2 := nn_fin hi h2
  rw [if_neg (by simp)]
  cases ha : nn (g lo)
  · rw [if_neg (by simp)]
    cases hb : nn (g hi)
    · rw [if_neg (by simp)]
      by_cases az : rk (g lo) = 0
      · rw [if_pos az]
        exact .zero hok (by dsimp only; omega) rfl hlo n1 (Int.le_refl _) (Int.le_of_lt h3) ha az
      · rw [if_neg az]
        by_cases bz : rk (g hi) = 0
        · rw [if_pos bz]
          exact .zero hok (by dsimp only; omega) rfl hhi n2 (Int.le_of_lt h3) (Int.le_refl _) hb bz
        · rw [if_neg bz]
          by_cases hs : decide (0 < rk (g lo)) = decide (0 < rk (g hi))
          · rw [if_pos hs]
            exact .bracket hok rfl ha hb az bz hs
          · rw [if_neg hs]
            obtain ⟨r1, r2, r3⟩ := bis_spec g (decide (0 < rk (g lo))) hi 64 lo hi 2 hlo n1 n2 h3 (Int.le_refl _) (Or.inl rfl) (gap64 n1 n2) ⟨ha, az, rfl⟩ ⟨hb, bz, fun h => hs h.symm⟩
            rcases r3 with ⟨r3, r4, r5⟩ | ⟨r3, r4⟩
            · exact .value hok r1 r4 r3 r5
            · rcases r4.why with ⟨v, z⟩ | ⟨p, u, q, up, le, w⟩
              · exact .zero hok r1 r3 r4.f64 r4.nan r4.le1 r4.le2 v z
              · exact .found hok r1 r3 r4.f64 r4.nan r4.le1 r4.le2 _ p u q up le w rfl
    · rw [if_pos rfl]
      exact .value hok (by dsimp only; omega) rfl rfl ⟨_, hb⟩
  · rw [if_pos rfl]
    exact .value hok (by dsimp only; omega) rfl rfl ⟨_, ha⟩

end Go.Proofs.Ytjhkjekbadbgnaa

/- The walk of solve.Root between two ends. -/
namespace Go.Proofs.Ytjhkjekbadbgnaa
open Go.RowKit

theorem gnn {r v : Nat} (h : cn r = v) : nn v = nn r := by rw [← h, nn_cn]
theorem grk {r v : Nat} (h : cn r = v) (hn : nn r = false) : rk v = rk r := by rw [← h, cn_of r hn]
theorem F64_0 : F64 0 := ⟨by decide⟩
theorem nn_0 : nn 0 = false := by unfold nn mg INF; decide
theorem rk_0 : rk 0 = 0 := by unfold rk ng mg; decide
theorem feq0 (x : Nat) (hx : F64 x) (hn : nn x = false) : (FloatKind.f64.format.order x 0 == some .eq) = decide (rk x = 0) := by
  rw [feq x 0 hx F64_0, hn, nn_0, rk_0]; rfl
theorem fgt0 (x : Nat) (hx : F64 x) (hn : nn x = false) : (FloatKind.f64.format.order x 0 == some .gt) = decide (0 < rk x) := by
  rw [fgt x 0 hx F64_0, hn, nn_0, rk_0]; rfl

theorem root_e1 {g : Nat → Nat} {lo hi : Nat} (h : okEnds lo hi = true) (h1 : nn (g lo) = true) : root g lo hi = (0, 1, 91) := by
  unfold root; rw [if_neg (by simp [h]), if_pos h1]
theorem root_e2 {g : Nat → Nat} {lo hi : Nat} (h : okEnds lo hi = true) (h1 : nn (g lo) = false) (h2 : nn (g hi) = true) : root g lo hi = (0, 2, 91) := by
  unfold root; rw [if_neg (by simp [h]), if_neg (by simp [h1]), if_pos h2]
theorem root_e3 {g : Nat → Nat} {lo hi : Nat} (h : okEnds lo hi = true) (h1 : nn (g lo) = false) (h2 : nn (g hi) = false) (h3 : rk (g lo) = 0) : root g lo hi = (lo, 2, 0) := by
  unfold root; rw [if_neg (by simp [h]), if_neg (by simp [h1]), if_neg (by simp [h2]), if_pos h3]
theorem root_e4 {g : Nat → Nat} {lo hi : Nat} (h : okEnds lo hi = true) (h1 : nn (g lo) = false) (h2 : nn (g hi) = false) (h3 : ¬ rk (g lo) = 0) (h4 : rk (g hi) = 0) : root g lo hi = (hi, 2, 0) := by
  unfold root; rw [if_neg (by simp [h]), if_neg (by simp [h1]), if_neg (by simp [h2]), if_neg h3, if_pos h4]
theorem root_e5 {g : Nat → Nat} {lo hi : Nat} (h : okEnds lo hi = true) (h1 : nn (g lo) = false) (h2 : nn (g hi) = false) (h3 : ¬ rk (g lo) = 0) (h4 : ¬ rk (g hi) = 0) (h5 : decide (0 < rk (g lo)) = decide (0 < rk (g hi))) : root g lo hi = (0, 2, 120) := by
  unfold root; rw [if_neg (by simp [h]), if_neg (by simp [h1]), if_neg (by simp [h2]), if_neg h3, if_neg h4, if_pos h5]
theorem root_e6 {g : Nat → Nat} {lo hi : Nat} (h : okEnds lo hi = true) (h1 : nn (g lo) = false) (h2 : nn (g hi) = false) (h3 : ¬ rk (g lo) = 0) (h4 : ¬ rk (g hi) = 0) (h5 : ¬ decide (0 < rk (g lo)) = decide (0 < rk (g hi))) : root g lo hi = bis g (decide (0 < rk (g lo))) 64 lo hi 2 := by
  unfold root; rw [if_neg (by simp [h]), if_neg (by simp [h1]), if_neg (by simp [h2]), if_neg h3, if_neg h4, if_neg h5]

set_option maxHeartbeats 1600000 in
theorem root_ok {fid : FuncId} {caps : Array Value} {B : Nat} {I : Nat → World → Prop} {D : Nat → Prop} {g : Nat → Nat} (hf : Fun1 fid caps B I D g)
    (lo hi : Nat) (hlo : F64 lo) (hhi : F64 hi) (w : World) (hB : B ≤ w.heap.size) (hI : I 0 w) (hok : okEnds lo hi = true)
    (hD : ∀ x, F64 x → nn x = false → rk lo ≤ rk x → rk x ≤ rk hi → D x) :
    Calls Try.prog 20 #[.func (.func fid) #[] caps, .float .f64 lo, .float .f64 hi] w (RootRet (root g lo hi) I) := by
  obtain ⟨h1, h2, hlt⟩ := okEnds_of hok
  have HOK := Hd.mk hok
  have HF := Hd.mk hf
  have HI := Hd.mk hI
  have HD := Hd.mk hD
  have HLT := Hd.mk hlt
  have N1 := Hd.mk (nn_fin lo h1)
  have N2 := Hd.mk (nn_fin hi h2)
  have heq := eq_nilFunc fid caps
  have hmf : ∀ (fn : Fn) (first cap : Array Value) (w : World), (Instr.makeFunc fn first cap).run Try.prog w = .ok (.func fn first cap) w := fun _ _ _ _ => rfl
  have h3 : (FloatKind.f64.format.order lo hi == some .lt) = true := by
    rw [flt lo hi hlo hhi, N1.out, N2.out]; simp [hlt]
  clear hf hI hD hlt hok
  go_enter Try.func20, Try.ntmps20
  go_wp2_with fail
  refine (number_any _ hlo _).mono ?_; rintro e w' ⟨rfl, rfl⟩
  go_wp2_with fail
  refine (number_any _ hhi _).mono ?_; rintro e w' ⟨rfl, rfl⟩
  go_wp2_with fail
  have hI0 : I 0 ((w.alloc (.cells #[.func (.func fid) #[] caps] 38)).alloc (.cells #[.int .i64 0] 3)) := HF.out.stable 0 w _ HI.out (((Below.refl _ _).alloc hB _).alloc (by simp; omega) _)
  refine (ask_any HF.out 0 lo (w.heap.size + 1) w.heap.size _ hI0 hlo (HD.out lo hlo N1.out (Int.le_refl _) (by have := HLT.out; omega)) (by omega) hB (by omega) (by omega) (by go_simp) (by go_simp) (by go_simp)).mono ?_
  clear hI0 HI
  generalize w.heap.size = s at *
  rintro e w1 ⟨r, rfl, hr, hcr, hI1, hc1, hfz1, hfc1, -⟩
  cases hn : nn r
  · have hnlo : nn (g lo) = false := (gnn hcr.out).trans hn
    have GL := Hd.mk hnlo
    have RL := Hd.mk (grk hcr.out hn)
    have HNR := Hd.mk hn
    clear hnlo
    go_wp2_with fail
    refine (snan_any _ hr _).mono ?_; rintro e w' ⟨rfl, rfl⟩
    go_wp2_with fail
    refine (ask_any HF.out 1 hi (s + 1) s _ hI1.out hhi (HD.out hi hhi N2.out (by have := HLT.out; omega) (Int.le_refl _)) (by omega) hB (by omega) (by omega) hc1 hfz1 hfc1).mono ?_
    clear hc1 hfz1 hfc1 hI1
    rintro e w2 ⟨q, rfl, hq, hcq, hI2, hc2, hfz2, hfc2, -⟩
    cases hm : nn q
    · have hnhi : nn (g hi) = false := (gnn hcq.out).trans hm
      have GH := Hd.mk hnhi
      have RH := Hd.mk (grk hcq.out hm)
      clear hnhi
      have f1 := feq0 r hr hn
      have f2 := feq0 q hq hm
      have f3 := fgt0 r hr hn
      have f4 := fgt0 q hq hm
      clear hn
      have HM := Hd.mk hm
      clear hm
      by_cases c1 : rk r = 0
      · have H : Hd (root g lo hi = (lo, 2, 0)) := ⟨root_e3 HOK.out GL.out GH.out (RL.out.trans c1)⟩
        rw [decide_eq_true c1] at f1
        clear c1 f2 f3 f4
        go_wp2_with fail
        refine (snan_any _ hq _).mono ?_; rintro e w' ⟨rfl, rfl⟩
        have hm := HM.out
        go_wp2_with fail
        go_region
        go_wp2
        exact bodyPost_ret (v := .tuple #[.float .f64 lo, .int .i64 2, .int .i64 0]) (by simp [results, Try.results20, go_sem, hc2]) rfl ⟨by rw [H.out]; rfl, by rw [H.out]; exact HF.out.stable _ _ _ hI2.out (Below.drew (Below.setCell (Below.refl _ _) (by show B ≤ s + 1; omega) _))⟩
      · rw [decide_eq_false c1] at f1
        by_cases c2 : rk q = 0
        · have H : Hd (root g lo hi = (hi, 2, 0)) := ⟨root_e4 HOK.out GL.out GH.out (by rw [RL.out]; exact c1) (RH.out.trans c2)⟩
          rw [decide_eq_true c2] at f2
          clear c1 c2 f3 f4
          go_wp2_with fail
          refine (snan_any _ hq _).mono ?_; rintro e w' ⟨rfl, rfl⟩
          have hm := HM.out
          go_wp2_with fail
          go_region
          go_wp2
          exact bodyPost_ret (v := .tuple #[.float .f64 hi, .int .i64 2, .int .i64 0]) (by simp [results, Try.results20, go_sem, hc2]) rfl ⟨by rw [H.out]; rfl, by rw [H.out]; exact HF.out.stable _ _ _ hI2.out (Below.drew (Below.setCell (Below.refl _ _) (by show B ≤ s + 1; omega) _))⟩
        · rw [decide_eq_false c2] at f2
          obtain ⟨sa, hsa⟩ : ∃ b, decide (0 < rk r) = b := ⟨_, rfl⟩
          obtain ⟨sb, hsb⟩ : ∃ b, decide (0 < rk q) = b := ⟨_, rfl⟩
          rw [hsa] at f3
          rw [hsb] at f4
          by_cases c3 : sa = sb
          · have H : Hd (root g lo hi = (0, 2, 120)) := ⟨root_e5 HOK.out GL.out GH.out (by rw [RL.out]; exact c1) (by rw [RH.out]; exact c2) (by rw [RL.out, RH.out, hsa, hsb, c3])⟩
            have c4 : (sa == sb) = true := by simp [c3]
            clear c1 c2 c3 hsa hsb
            go_wp2_with fail
            refine (snan_any _ hq _).mono ?_; rintro e w' ⟨rfl, rfl⟩
            have hm := HM.out
            go_wp2_with fail
            go_region
            go_wp2
            exact bodyPost_ret (v := .tuple #[.float .f64 0, .int .i64 2, .int .i64 120]) (by simp [results, Try.results20, go_sem, hc2]) rfl ⟨by rw [H.out]; rfl, by rw [H.out]; exact HF.out.stable _ _ _ hI2.out (Below.drew (Below.setCell (Below.refl _ _) (by show B ≤ s + 1; omega) _))⟩
          · have H : Hd (root g lo hi = bis g sa 64 lo hi 2) := ⟨by rw [root_e6 HOK.out GL.out GH.out (by rw [RL.out]; exact c1) (by rw [RH.out]; exact c2) (by rw [RL.out, RH.out, hsa, hsb]; exact c3), RL.out, hsa]⟩
            have c4 : (sa == sb) = false := by simp [c3]
            clear c1 c2 c3 hsa hsb
            go_wp2_with fail
            refine (snan_any _ hq _).mono ?_; rintro e w' ⟨rfl, rfl⟩
            have hm := HM.out
            go_wp2_with fail
            clear f1 f2 f4 c4 hm hcr hcq hq h1 h2 h3
            go_loopg [1, 2] 64 (fun kq v1 v2 w' => ∃ (x y c : Nat), v1 = .float .f64 x ∧ v2 = .float .f64 y ∧ F64 x ∧ F64 y ∧ Hd (nn x = false) ∧ Hd (nn y = false) ∧
              Hd (rk lo ≤ rk x ∧ rk y ≤ rk hi ∧ rk x < rk y ∧ rk y - rk x ≤ 2 ^ kq) ∧ Hd (root g lo hi = bis g sa kq x y c) ∧ Hd (I c w') ∧ Hd (kq + c ≤ 66) ∧
              Hd (w'.cell? ⟨s + 1, 0, none⟩ = some (.int .i64 c)) ∧ w'.frozen? ⟨s + 1, 0, none⟩ = false ∧ w'.cell? ⟨s, 0, none⟩ = some (.func (.func fid) #[] caps))
            case atStart => exact ⟨lo, hi, 2, rfl, rfl, hlo, hhi, N1, N2, ⟨Int.le_refl _, Int.le_refl _, HLT.out, gap64 N1.out N2.out⟩, H, hI2, ⟨by decide⟩, ⟨hc2⟩, hfz2, hfc2⟩
            case round =>
              clear H hI2 hc2 hfz2 hfc2
              obtain ⟨x, y, c, rfl, rfl, hx, hy, NX, NY, HG, H, hI2, HK, HC, hfz2, hfc2⟩ := hrel
              obtain ⟨m, hmd⟩ : ∃ m, md x y = m := ⟨_, rfl⟩
              have hmr := (md_rk NX.out NY.out).1
              have hm64 := (md_rk NX.out NY.out).2.1
              have NM := Hd.mk (md_rk NX.out NY.out).2.2
              rw [hmd] at hmr hm64 NM
              have HMR := Hd.mk hmr
              have HMD := Hd.mk hmd
              clear hmr hmd
              by_cases he : rk m = rk x
              · have H' : Hd (root g lo hi = (x, c, 0)) := ⟨by rw [H.out]; exact bis_stop _ _ _ _ _ _ (by rw [HMD.out]; exact he)⟩
                have he' : (rk m == rk x) = true := by rw [beq_iff_eq]; exact he
                have hc := HC.out
                clear H he
                go_wp2_with fail
                refine (mid_any x y hx hy NX.out NY.out _).mono ?_; rintro e w' ⟨rfl, rfl⟩
                rw [show atk ((rk x + rk y) / 2) = m from HMD.out]
                go_wp2_with fail
                refine (rank_any m hm64 NM.out _).mono ?_; rintro e w' ⟨rfl, rfl⟩
                go_wp2_with fail
                refine (rank_any x hx NX.out _).mono ?_; rintro e w' ⟨rfl, rfl⟩
                go_wp2_with fail
                go_region
                go_wp2
                exact bodyPost_ret (v := .tuple #[.float .f64 x, .int .i64 c, .int .i64 0]) (by simp [results, Try.results20, go_sem, hc]) rfl ⟨by rw [H'.out], by rw [H'.out]; exact HF.out.stable _ _ _ hI2.out (Below.drew (Below.setCell (Below.refl _ _) (by show B ≤ s + 1; omega) _))⟩
              · have he' : (rk m == rk x) = false := by rw [beq_eq_false_iff_ne]; exact he
                have HE : Hd (¬ rk (md x y) = rk x) := ⟨by rw [HMD.out]; exact he⟩
                clear he
                obtain ⟨k, rfl⟩ : ∃ k, gk = k + 1 := by
                  cases gk with
                  | zero => exact absurd (gap_0 NX.out NY.out HG.out.2.2.1 HG.out.2.2.2) HE.out
                  | succ k => exact ⟨k, rfl⟩
                have HB := Hd.mk (md_bd NX.out NY.out HG.out.2.2.1 HE.out HG.out.2.2.2)
                rw [HMD.out] at HB
                go_wp2_with fail
                refine (mid_any x y hx hy NX.out NY.out _).mono ?_; rintro e w' ⟨rfl, rfl⟩
                rw [show atk ((rk x + rk y) / 2) = m from HMD.out]
                go_wp2_with fail
                refine (rank_any m hm64 NM.out _).mono ?_; rintro e w' ⟨rfl, rfl⟩
                go_wp2_with fail
                refine (rank_any x hx NX.out _).mono ?_; rintro e w' ⟨rfl, rfl⟩
                go_wp2_with fail
                refine (ask_any HF.out c m (s + 1) s _ hI2.out hm64 (HD.out m hm64 NM.out (by have := HG.out; have := HB.out; omega) (by have := HG.out; have := HB.out; omega)) (by omega) hB (by omega) (by have := HK.out; omega) HC.out hfz2 hfc2).mono ?_
                clear HC hfz2 hfc2 hI2
                rintro e w3 ⟨v, rfl, hv, hcv, hI2, hc2, hfz2, hfc2, -⟩
                have HC := Hd.mk hc2
                clear hc2
                have hgv : g (md x y) = cn v := by rw [HMD.out]; exact hcv.out.symm
                cases hnv : nn v
                · have g1 : nn (g (md x y)) = false := by rw [hgv, nn_cn]; exact hnv
                  have g2 : rk (g (md x y)) = rk v := by rw [hgv, cn_of v hnv]
                  have f5 := feq0 v hv hnv
                  have f6 := fgt0 v hv hnv
                  have HNV := Hd.mk hnv
                  clear hgv hcv hnv
                  by_cases c1 : rk v = 0
                  · have H' : Hd (root g lo hi = (m, c + 1, 0)) := ⟨by rw [H.out, bis_zero _ _ _ _ _ _ HE.out g1 (g2.trans c1), HMD.out]⟩
                    rw [decide_eq_true c1] at f5
                    have hc := HC.out
                    clear c1 g1 g2 f6 H
                    go_wp2_with fail
                    refine (snan_any _ hv _).mono ?_; rintro e w' ⟨rfl, rfl⟩
                    have hnv := HNV.out
                    go_wp2_with fail
                    go_region
                    go_wp2
                    exact bodyPost_ret (v := .tuple #[.float .f64 m, .int .i64 (c + 1 : Nat), .int .i64 0]) (by simp [results, Try.results20, go_sem, hc]) rfl ⟨by rw [H'.out], by rw [H'.out]; exact HF.out.stable _ _ _ hI2.out (Below.drew (Below.setCell (Below.refl _ _) (by show B ≤ s + 1; omega) _))⟩
                  · rw [decide_eq_false c1] at f5
                    obtain ⟨sv, hsv⟩ : ∃ b, decide (0 < rk v) = b := ⟨_, rfl⟩
                    rw [hsv] at f6
                    by_cases c3 : sv = sa
                    · have H' : Hd (root g lo hi = bis g sa k m y (c + 1)) := ⟨by rw [H.out, bis_up _ _ _ _ _ _ HE.out g1 (by rw [g2]; exact c1) (by rw [g2, hsv]; exact c3), HMD.out]⟩
                      have c4 : (sv == sa) = true := by simp [c3]
                      clear c1 c3 g1 g2 H hsv
                      go_wp2_with fail
                      refine (snan_any _ hv _).mono ?_; rintro e w' ⟨rfl, rfl⟩
                      have hnv := HNV.out
                      go_wp2_with fail
                      go_roundg k
                      case measure => omega
                      case rel => exact ⟨m, y, c + 1, rfl, rfl, hm64, hy, NM, NY, ⟨by have := HG.out; have := HB.out; omega, HG.out.2.1, HB.out.2.1, HB.out.2.2.2⟩, H', hI2, ⟨by have := HK.out; omega⟩, HC, hfz2, hfc2⟩
                    · have H' : Hd (root g lo hi = bis g sa k x m (c + 1)) := ⟨by rw [H.out, bis_dn _ _ _ _ _ _ HE.out g1 (by rw [g2]; exact c1) (by rw [g2, hsv]; exact c3), HMD.out]⟩
                      have c4 : (sv == sa) = false := by simp [c3]
                      clear c1 c3 g1 g2 H hsv
                      go_wp2_with fail
                      refine (snan_any _ hv _).mono ?_; rintro e w' ⟨rfl, rfl⟩
                      have hnv := HNV.out
                      go_wp2_with fail
                      go_roundg k
                      case measure => omega
                      case rel => exact ⟨x, m, c + 1, rfl, rfl, hx, hm64, NX, NM, ⟨HG.out.1, by have := HG.out; have := HB.out; omega, HB.out.1, HB.out.2.2.1⟩, H', hI2, ⟨by have := HK.out; omega⟩, HC, hfz2, hfc2⟩
                · have H' : Hd (root g lo hi = (0, c + 1, 91)) := ⟨by rw [H.out, bis_nan _ _ _ _ _ _ HE.out (by rw [hgv, nn_cn]; exact hnv)]⟩
                  have hc := HC.out
                  clear H hgv hcv
                  go_wp2_with fail
                  refine (snan_any _ hv _).mono ?_; rintro e w' ⟨rfl, rfl⟩
                  go_wp2_with fail
                  go_region
                  go_wp2
                  exact bodyPost_ret (v := .tuple #[.float .f64 0, .int .i64 (c + 1 : Nat), .int .i64 91]) (by simp [results, Try.results20, go_sem, hc]) rfl ⟨by rw [H'.out], by rw [H'.out]; exact HF.out.stable _ _ _ hI2.out (Below.drew (Below.setCell (Below.refl _ _) (by show B ≤ s + 1; omega) _))⟩
    · have H : Hd (root g lo hi = (0, 2, 91)) := ⟨root_e2 HOK.out GL.out ((gnn hcq.out).trans hm)⟩
      go_wp2_with fail
      refine (snan_any _ hq _).mono ?_; rintro e w' ⟨rfl, rfl⟩
      go_wp2_with fail
      go_region
      go_wp2
      exact bodyPost_ret (v := .tuple #[.float .f64 0, .int .i64 2, .int .i64 91]) (by simp [results, Try.results20, go_sem, hc2]) rfl ⟨by rw [H.out]; rfl, by rw [H.out]; exact HF.out.stable _ _ _ hI2.out (Below.drew (Below.setCell (Below.refl _ _) (by show B ≤ s + 1; omega) _))⟩
  · have H : Hd (root g lo hi = (0, 1, 91)) := ⟨root_e1 HOK.out ((gnn hcr.out).trans hn)⟩
    go_wp2_with fail
    refine (snan_any _ hr _).mono ?_; rintro e w' ⟨rfl, rfl⟩
    go_wp2_with fail
    go_region
    go_wp2
    exact bodyPost_ret (v := .tuple #[.float .f64 0, .int .i64 1, .int .i64 91]) (by simp [results, Try.results20, go_sem, hc1]) rfl ⟨by rw [H.out]; rfl, by rw [H.out]; exact HF.out.stable _ _ _ hI1.out (Below.drew (Below.setCell (Below.refl _ _) (by show B ≤ s + 1; omega) _))⟩

end Go.Proofs.Ytjhkjekbadbgnaa

/- The walk of solve.Poly. -/
namespace Go.Proofs.Ytjhkjekbadbgnaa
open Go.RowKit

theorem Fls.below {w w' : World} {a : Option Addr} {l : List Nat} (h : Fls w a l) (hb : ∀ b o v, w.cell? ⟨b, o, none⟩ = some v → w'.cell? ⟨b, o, none⟩ = some v) : Fls w' a l :=
  ⟨h.nil, fun b o v e i hi => ⟨(h.cell b o v e i hi).1, hb _ _ _ (h.cell b o v e i hi).2⟩, h.wf, h.len⟩

theorem cell_of_below {B : Nat} {w w' : World} (h : Below B w w') (hB : w.heap.size ≤ B) {b o : Nat} {v : Value} (hc : w.cell? ⟨b, o, none⟩ = some v) : w'.cell? ⟨b, o, none⟩ = some v := by
  rw [h.cell (p := ⟨b, o, none⟩) (Nat.lt_of_lt_of_le (World.block_lt_of_cell? _ _ hc) hB), hc]

theorem enter_of {P : Program} {f : FuncId} {fn : Func} {c : Code} (hf : P.funcs[f]? = some fn) (hname : (fn.name == "runtime.NumGoroutine") = false) (hb : fn.body = some c) (args : Array Value) (w : World) :
    (callFunc f args).run P w = .ok (.enter f args) w := by
  have h1 : fn.name ≠ "runtime.NumGoroutine" := by simpa using hname
  simp [callFunc, hf, h1, hb]

set_option maxHeartbeats 800000 in
theorem poly1_any (a : Option Addr) (l : List Nat) (c x bp : Nat) (hx : F64 x) (w : World) (hl : Fls w a l) (hc : w.cell? ⟨bp, 0, none⟩ = some (.slice a l.length c)) :
    Calls Try.prog 37 #[.float .f64 x, .pointer (some ⟨bp, 0, none⟩)] w (FRet (horn (l.map cn) (cn x)) w) := by
  go_enter Try.func37, Try.ntmps37
  go_wp2_with fail
  refine (horner_any a l c x hx _ hl).mono ?_
  rintro e w' ⟨r, n, rfl, hr, hcr, rfl⟩
  have HC := Hd.mk hcr
  clear hcr
  go_wp2_with fail
  go_ret
  exact ⟨r, n, rfl, hr, HC.out, rfl⟩

/-- The polynomial of the list l, all NaNs one. -/
def gP (l : List Nat) (x : Nat) : Nat := horn (l.map cn) (cn x)

theorem poly_fun (a : Option Addr) (l : List Nat) (c bp : Nat) (W : World) (hl : Fls W a l) (hc : W.cell? ⟨bp, 0, none⟩ = some (.slice a l.length c)) :
    Fun1 37 #[.pointer (some ⟨bp, 0, none⟩)] W.heap.size (fun _ w' => Below W.heap.size W w') (fun _ => True) (gP l) where
  enter := fun args w => enter_of Try.func37 (by kernel_rfl) rfl args w
  stable := fun _ _ _ h k => h.trans k
  calls := fun n x w hI _ _ hx _ => by
    have h1 : Fls w a l := hl.below fun b o v h => cell_of_below hI (Nat.le_refl _) h
    refine (poly1_any a l c x bp hx w h1 (cell_of_below hI (Nat.le_refl _) hc)).mono ?_
    rintro e w' ⟨r, n, rfl, hr, hcr, rfl⟩
    exact ⟨r, rfl, hr, ⟨hcr⟩, ⟨below_drewN hI n⟩, ⟨fun _ _ _ => rfl, Nat.le_refl _⟩⟩

/-- Poly's answer. -/
def PolyRet (t : Nat × Nat × Int) (w : World) (e : Ending) (w' : World) : Prop :=
  e = .returned (.tuple #[.float .f64 t.1, .int .i64 t.2.1, .int .i64 t.2.2]) ∧ Below w.heap.size w w'

theorem root_any {fid : FuncId} {caps : Array Value} {B : Nat} {I : Nat → World → Prop} {D : Nat → Prop} {g : Nat → Nat} (hf : Fun1 fid caps B I D g)
    (lo hi : Nat) (hlo : F64 lo) (hhi : F64 hi) (w : World) (hB : B ≤ w.heap.size) (hI : I 0 w)
    (hD : ∀ x, F64 x → nn x = false → rk lo ≤ rk x → rk x ≤ rk hi → D x) :
    Calls Try.prog 20 #[.func (.func fid) #[] caps, .float .f64 lo, .float .f64 hi] w (RootRet (root g lo hi) I) := by
  cases h : okEnds lo hi
  · exact root_arg hf lo hi hlo hhi w hB hI h
  · exact root_ok hf lo hi hlo hhi w hB hI h hD

set_option maxHeartbeats 800000 in
theorem poly_any (a : Option Addr) (l : List Nat) (c lo hi : Nat) (hlo : F64 lo) (hhi : F64 hi) (w : World) (hl : Fls w a l) :
    Calls Try.prog 15 #[.slice a l.length c, .float .f64 lo, .float .f64 hi] w (PolyRet (root (gP l) lo hi) w) := by
  have hmf : ∀ (fn : Fn) (first cap : Array Value) (w : World), (Instr.makeFunc fn first cap).run Try.prog w = .ok (.func fn first cap) w := fun _ _ _ _ => rfl
  have HL := Hd.mk hl
  clear hl
  go_enter Try.func15, Try.ntmps15
  go_wp2_with fail
  have hs : w.heap.size + 1 = (w.alloc (.cells #[.slice a l.length c] 22)).heap.size := by simp
  have hb : Below w.heap.size w (w.alloc (.cells #[.slice a l.length c] 22)) := (Below.refl _ _).alloc (Nat.le_refl _) _
  have h1 : (w.alloc (.cells #[.slice a l.length c] 22)).cell? ⟨w.heap.size, 0, none⟩ = some (.slice a l.length c) := by go_simp
  have h2 : Fls (w.alloc (.cells #[.slice a l.length c] 22)) a l := HL.out.below fun b o v h => cell_of_below hb (Nat.le_refl _) h
  generalize (w.alloc (.cells #[.slice a l.length c] 22)) = W at *
  refine (root_any (poly_fun a l c w.heap.size W h2 h1) lo hi hlo hhi W (Nat.le_refl _) (Below.refl _ _) (fun _ _ _ _ _ => trivial)).mono ?_
  rintro e w1 ⟨rfl, hb1⟩
  have hb2 := hb.trans (hb1.mono (by omega))
  clear h1 h2 hb hb1 hs
  obtain ⟨t, ht⟩ : ∃ t, root (gP l) lo hi = t := ⟨_, rfl⟩
  rw [ht]
  have HT := Hd.mk ht
  clear ht
  obtain ⟨t1, t2, t3⟩ := t
  go_wp2_with fail
  go_ret3
  exact ⟨by rw [HT.out]; rfl, hb2⟩

end Go.Proofs.Ytjhkjekbadbgnaa

/- The walks of the reference's small functions on bits: Number, Rank, Lt, At, Mid, Size, Negative, IsInf, Flip. -/
namespace Go.Proofs.Ytjhkjekbadbgnaa
open Go.RowKit

theorem fin_int (x : Nat) : decide ((mg x : Int) < 9218868437227405312) = fin x := by
  unfold fin INF; rw [Bool.eq_iff_iff]; simp; omega
theorem ng_int (x : Nat) : decide ((9223372036854775808 : Int) ≤ x) = ng x := by
  unfold ng; rw [Bool.eq_iff_iff]; simp; omega

set_option maxHeartbeats 800000 in
theorem rNumber_any (u : Nat) (hu : F64 u) (w : World) :
    Calls Try.prog 46 #[.int .u64 u] w fun e w' => e = .returned (.bool (fin u)) ∧ w = w' := by
  have h1 := bits_mg u hu
  have H := Hd.mk (fin_int u)
  go_enter Try.func46, Try.ntmps46
  go_wp2
  go_ret
  exact ⟨ret_bool H.out, rfl⟩

set_option maxHeartbeats 800000 in
theorem rSize_any (u : Nat) (hu : F64 u) (w : World) :
    Calls Try.prog 50 #[.int .u64 u] w fun e w' => e = .returned (.int .u64 (mg u)) ∧ w = w' := by
  have h1 := bits_mg u hu
  go_enter Try.func50, Try.ntmps50
  go_wp2
  go_ret
  exact ⟨rfl, rfl⟩

set_option maxHeartbeats 800000 in
theorem rNegative_any (u : Nat) (w : World) :
    Calls Try.prog 51 #[.int .u64 u] w fun e w' => e = .returned (.bool (ng u)) ∧ w = w' := by
  have H := Hd.mk (ng_int u)
  go_enter Try.func51, Try.ntmps51
  go_wp2
  go_ret
  exact ⟨ret_bool H.out, rfl⟩

theorem pos_bits {x : Nat} (hx : F64 x) (h : ng x = false) : (x : Int) = mg x ∧ decide ((9223372036854775808 : Int) ≤ x) = false := by
  have := hx.out; unfold ng at h; unfold mg; simp at h; refine ⟨by omega, by simp; omega⟩
theorem neg_bits {x : Nat} (hx : F64 x) (h : ng x = true) : IntKind.u64.wrap ((x : Int) - 9223372036854775808) = mg x ∧ decide ((9223372036854775808 : Int) ≤ x) = true := by
  have := hx.out; unfold ng at h; unfold mg; simp at h; rw [IntKind.wrap_u64]; refine ⟨by omega, by simp; omega⟩

set_option maxHeartbeats 800000 in
theorem rRank_nan (x : Nat) (hx : F64 x) (hn : nn x = true) (w : World) :
    Calls Try.prog 79 #[.int .u64 x] w fun e w' => e = .returned (.tuple #[.int .i64 0, .bool false]) ∧ w = w' := by
  go_enter Try.func79, Try.ntmps79
  go_wp2_with (go_at_call 49; refine (rIsNaN_any _ hx _).mono ?_; rintro e w' ⟨rfl, rfl⟩)
  go_ret2
  exact ⟨rfl, rfl⟩

set_option maxHeartbeats 800000 in
theorem rRank_any (x : Nat) (hx : F64 x) (hn : nn x = false) (w : World) :
    Calls Try.prog 79 #[.int .u64 x] w fun e w' => e = .returned (.tuple #[.int .i64 (rk x), .bool true]) ∧ w = w' := by
  have hb : (0 : Int) ≤ mg x := by omega
  have hb2 : (mg x : Int) ≤ 9223372036854775807 := by have := mg_lt x; omega
  cases hng : ng x
  · have H : Hd ((x : Int) = rk x) := ⟨by rw [rk_of_pos hng]; exact (pos_bits hx hng).1⟩
    have h1 := (pos_bits hx hng).2
    have hb3 : (x : Int) ≤ 9223372036854775807 := by have := (pos_bits hx hng).1; omega
    clear hng
    go_enter Try.func79, Try.ntmps79
    go_wp2_with (go_at_call 49; refine (rIsNaN_any _ hx _).mono ?_; rintro e w' ⟨rfl, rfl⟩)
    go_ret2
    exact ⟨ret2_int H.out, rfl⟩
  · have H : Hd (-(mg x : Int) = rk x) := ⟨by rw [rk_of_neg hng]⟩
    have h1 := (neg_bits hx hng).2
    have h2 := (neg_bits hx hng).1
    clear hng
    go_enter Try.func79, Try.ntmps79
    go_wp2_with (go_at_call 49; refine (rIsNaN_any _ hx _).mono ?_; rintro e w' ⟨rfl, rfl⟩)
    go_ret2
    exact ⟨ret2_int H.out, rfl⟩

/-- Below, of bits: false of a NaN. -/
def ltB (x y : Nat) : Bool := !nn x && !nn y && decide (rk x < rk y)

set_option maxHeartbeats 800000 in
theorem rLt_any (x y : Nat) (hx : F64 x) (hy : F64 y) (w : World) :
    Calls Try.prog 47 #[.int .u64 x, .int .u64 y] w fun e w' => e = .returned (.bool (ltB x y)) ∧ w = w' := by
  cases hn : nn x <;> cases hm : nn y
  · have H : Hd (decide (rk x < rk y) = ltB x y) := ⟨by unfold ltB; rw [hn, hm]; rfl⟩
    have HN := Hd.mk hn
    have HM := Hd.mk hm
    clear hn hm
    go_enter Try.func47, Try.ntmps47
    go_wp2_with fail
    refine (rRank_any x hx HN.out _).mono ?_; rintro e w' ⟨rfl, rfl⟩
    go_wp2_with fail
    refine (rRank_any y hy HM.out _).mono ?_; rintro e w' ⟨rfl, rfl⟩
    go_wp2_with fail
    go_ret
    exact ⟨ret_bool H.out, rfl⟩
  · have H : Hd (false = ltB x y) := ⟨by unfold ltB; rw [hn, hm]; rfl⟩
    have HN := Hd.mk hn
    have HM := Hd.mk hm
    clear hn hm
    go_enter Try.func47, Try.ntmps47
    go_wp2_with fail
    refine (rRank_any x hx HN.out _).mono ?_; rintro e w' ⟨rfl, rfl⟩
    go_wp2_with fail
    refine (rRank_nan y hy HM.out _).mono ?_; rintro e w' ⟨rfl, rfl⟩
    go_wp2_with fail
    go_ret
    exact ⟨ret_bool H.out, rfl⟩
  · have H : Hd (false = ltB x y) := ⟨by unfold ltB; rw [hn, hm]; rfl⟩
    have HN := Hd.mk hn
    have HM := Hd.mk hm
    clear hn hm
    go_enter Try.func47, Try.ntmps47
    go_wp2_with fail
    refine (rRank_nan x hx HN.out _).mono ?_; rintro e w' ⟨rfl, rfl⟩
    go_wp2_with fail
    refine (rRank_any y hy HM.out _).mono ?_; rintro e w' ⟨rfl, rfl⟩
    go_wp2_with fail
    go_ret
    exact ⟨ret_bool H.out, rfl⟩
  · have H : Hd (false = ltB x y) := ⟨by unfold ltB; rw [hn, hm]; rfl⟩
    have HN := Hd.mk hn
    have HM := Hd.mk hm
    clear hn hm
    go_enter Try.func47, Try.ntmps47
    go_wp2_with fail
    refine (rRank_nan x hx HN.out _).mono ?_; rintro e w' ⟨rfl, rfl⟩
    go_wp2_with fail
    refine (rRank_nan y hy HM.out _).mono ?_; rintro e w' ⟨rfl, rfl⟩
    go_wp2_with fail
    go_ret
    exact ⟨ret_bool H.out, rfl⟩

set_option maxHeartbeats 800000 in
theorem rAt_any (n : Int) (h0 : -9218868437227405312 ≤ n) (h1 : n ≤ 9218868437227405312) (w : World) :
    Calls Try.prog 98 #[.int .i64 n] w fun e w' => e = .returned (.tuple #[.int .u64 (atk n), .bool true]) ∧ w = w' := by
  have c1 : decide (n < -9218868437227405312) = false := by simp; omega
  have c2 : decide (9218868437227405312 < n) = false := by simp; omega
  by_cases h : n < 0
  · have c3 : decide (n < 0) = true := by simp; omega
    have H : Hd (9223372036854775808 + -n = atk n) := ⟨by unfold atk; rw [if_pos h]; omega⟩
    have h2 : 0 ≤ -n := by omega
    have h3 : -n ≤ 9223372036854775807 := by omega
    clear h h1 h0
    go_enter Try.func98, Try.ntmps98
    go_wp2
    go_ret2
    exact ⟨ret2_int H.out, rfl⟩
  · have c3 : decide (n < 0) = false := by simp; omega
    have H : Hd (n = atk n) := ⟨by rw [← atk_pos (by omega)]; omega⟩
    have h2 : 0 ≤ n := by omega
    have h3 : n ≤ 9223372036854775807 := by omega
    clear h h1 h0
    go_enter Try.func98, Try.ntmps98
    go_wp2
    go_ret2
    exact ⟨ret2_int H.out, rfl⟩

set_option maxHeartbeats 800000 in
theorem rMid_any (x y : Nat) (hx : F64 x) (hy : F64 y) (hn : nn x = false) (hm : nn y = false) (w : World) :
    Calls Try.prog 80 #[.int .u64 x, .int .u64 y] w fun e w' => e = .returned (.tuple #[.int .u64 (atk ((rk x + rk y) / 2)), .bool true]) ∧ w = w' := by
  have HN := Hd.mk hn
  have HM := Hd.mk hm
  clear hn hm
  go_enter Try.func80, Try.ntmps80
  go_wp2_with fail
  refine (rRank_any x hx HN.out _).mono ?_; rintro e w' ⟨rfl, rfl⟩
  go_wp2_with fail
  refine (rRank_any y hy HM.out _).mono ?_; rintro e w' ⟨rfl, rfl⟩
  go_wp2_with fail
  have hb := rk_bd x HN.out
  have hb' := rk_bd y HM.out
  have hm := rmid64 (rk x) (rk y) (by omega) (by omega) (by omega) (by omega)
  rw [hm]
  clear hm
  refine (rAt_any _ (by omega) (by omega) _).mono ?_; rintro e w' ⟨rfl, rfl⟩
  clear hb hb'
  go_wp2_with fail
  go_ret2
  exact ⟨rfl, rfl⟩

end Go.Proofs.Ytjhkjekbadbgnaa

/- The walks of tenorref12: a search that goes on. -/
namespace Go.Proofs.Ytjhkjekbadbgnaa
open Go.RowKit
set_option linter.unusedSimpArgs false
set_option linter.unusedVariables false

theorem cellb {B : Nat} {w w' : World} (hb : Below B w w') (b : Nat) (h : b < B) : (∀ o, w'.cell? ⟨b, o, none⟩ = w.cell? ⟨b, o, none⟩) ∧ (∀ o, w'.frozen? ⟨b, o, none⟩ = w.frozen? ⟨b, o, none⟩) :=
  ⟨fun o => hb.cell (p := ⟨b, o, none⟩) h, fun o => hb.frozen (p := ⟨b, o, none⟩) h⟩

/-- Does halving end? -/
def hS (lo hi : Nat) : Bool := rk (md lo hi) == rk lo
def hAsk (lo hi ask : Nat) : Nat := if hS lo hi then ask else md lo hi
def hDone (lo hi : Nat) (done : Bool) : Bool := hS lo hi || done
def hX (lo hi x : Nat) : Nat := if hS lo hi then lo else x
def hE (lo hi : Nat) (e : Int) : Int := if hS lo hi then 0 else e
theorem h_stop {lo hi ask x : Nat} {done : Bool} {e : Int} (h : hS lo hi = true) : ask = hAsk lo hi ask ∧ true = hDone lo hi done ∧ lo = hX lo hi x ∧ 0 = hE lo hi e := by
  unfold hAsk hDone hX hE; rw [h]; exact ⟨rfl, rfl, rfl, rfl⟩
theorem h_go {lo hi ask x : Nat} {done : Bool} {e : Int} (h : hS lo hi = false) : md lo hi = hAsk lo hi ask ∧ done = hDone lo hi done ∧ x = hX lo hi x ∧ e = hE lo hi e := by
  unfold hAsk hDone hX hE; rw [h]; exact ⟨rfl, rfl, rfl, rfl⟩

set_option maxHeartbeats 800000 in
theorem ended_any (lo hi : Nat) (neg : Bool) (calls : Int) (ask first : Nat) (done : Bool) (x : Nat) (e : Int) (nx : Nat) (ne : Int) (w : World) :
    Calls Try.prog 48 #[.agg #[.int .u64 lo, .int .u64 hi, .bool neg, .int .i64 calls, .int .u64 ask, .int .u64 first, .bool done, .int .u64 x, .int .i64 e], .int .u64 nx, .int .i64 ne] w fun en w' =>
      en = .returned (.agg #[.int .u64 lo, .int .u64 hi, .bool neg, .int .i64 calls, .int .u64 ask, .int .u64 first, .bool true, .int .u64 nx, .int .i64 ne]) ∧ Below w.heap.size w w' := by
  go_enter Try.func48, Try.ntmps48
  go_wp2
  exact bodyPost_ret (v := .agg #[.int .u64 lo, .int .u64 hi, .bool neg, .int .i64 calls, .int .u64 ask, .int .u64 first, .bool true, .int .u64 nx, .int .i64 ne]) (by simp [results, Try.results48, go_sem]) rfl ⟨rfl, ((Below.refl _ _).alloc (Nat.le_refl _) _).alloc (by simp) _⟩

theorem ret_val {lo hi : Nat} {neg : Bool} {calls : Int} {ask ask' first : Nat} {done done' : Bool} {x x' : Nat} {e e' : Int} (h1 : ask = ask') (h2 : done = done') (h3 : x = x') (h4 : e = e') :
    Ending.returned (.agg #[.int .u64 lo, .int .u64 hi, .bool neg, .int .i64 calls, .int .u64 ask, .int .u64 first, .bool done, .int .u64 x, .int .i64 e]) = .returned (.agg #[.int .u64 lo, .int .u64 hi, .bool neg, .int .i64 calls, .int .u64 ask', .int .u64 first, .bool done', .int .u64 x', .int .i64 e']) := by rw [h1, h2, h3, h4]

set_option maxHeartbeats 1600000 in
theorem halved_any (lo hi : Nat) (neg : Bool) (calls : Int) (ask first : Nat) (done : Bool) (x : Nat) (e : Int) (hlo : F64 lo) (hhi : F64 hi) (hn : nn lo = false) (hm : nn hi = false) (w : World) :
    Calls Try.prog 52 #[.agg #[.int .u64 lo, .int .u64 hi, .bool neg, .int .i64 calls, .int .u64 ask, .int .u64 first, .bool done, .int .u64 x, .int .i64 e]] w fun en w' =>
      en = .returned (.agg #[.int .u64 lo, .int .u64 hi, .bool neg, .int .i64 calls, .int .u64 (hAsk lo hi ask), .int .u64 first, .bool (hDone lo hi done), .int .u64 (hX lo hi x), .int .i64 (hE lo hi e)]) ∧ Below w.heap.size w w' := by
  have HN := Hd.mk hn
  have HM := Hd.mk hm
  clear hn hm
  cases hs : hS lo hi
  · have H := Hd.mk (h_go (ask := ask) (done := done) (x := x) (e := e) hs)
    have h : (rk (md lo hi) == rk lo) = false := hs
    clear hs
    go_enter Try.func52, Try.ntmps52
    go_wp2_with fail
    refine (rMid_any lo hi hlo hhi HN.out HM.out _).mono ?_; rintro en w' ⟨rfl, rfl⟩
    rw [show atk ((rk lo + rk hi) / 2) = md lo hi from rfl]
    go_wp2_with fail
    refine (rRank_any (md lo hi) (md_rk HN.out HM.out).2.1 (md_rk HN.out HM.out).2.2 _).mono ?_; rintro en w' ⟨rfl, rfl⟩
    go_wp2_with fail
    refine (rRank_any lo hlo HN.out _).mono ?_; rintro en w' ⟨rfl, rfl⟩
    go_wp2_with fail
    exact bodyPost_ret (v := .agg #[.int .u64 lo, .int .u64 hi, .bool neg, .int .i64 calls, .int .u64 (md lo hi), .int .u64 first, .bool done, .int .u64 x, .int .i64 e]) (by simp [results, Try.results52, go_sem]) rfl ⟨ret_val H.out.1 H.out.2.1 H.out.2.2.1 H.out.2.2.2, ((Below.refl _ _).alloc (Nat.le_refl _) _).alloc (by simp) _⟩
  · have H := Hd.mk (h_stop (ask := ask) (done := done) (x := x) (e := e) hs)
    have h : (rk (md lo hi) == rk lo) = true := hs
    clear hs
    go_enter Try.func52, Try.ntmps52
    go_wp2_with fail
    refine (rMid_any lo hi hlo hhi HN.out HM.out _).mono ?_; rintro en w' ⟨rfl, rfl⟩
    rw [show atk ((rk lo + rk hi) / 2) = md lo hi from rfl]
    go_wp2_with fail
    refine (rRank_any (md lo hi) (md_rk HN.out HM.out).2.1 (md_rk HN.out HM.out).2.2 _).mono ?_; rintro en w' ⟨rfl, rfl⟩
    go_wp2_with fail
    refine (rRank_any lo hlo HN.out _).mono ?_; rintro en w' ⟨rfl, rfl⟩
    go_wp2_with fail
    refine (ended_any lo hi neg calls ask first done x e lo 0 _).mono ?_; rintro en w1 ⟨rfl, hb⟩
    have B : Below w.heap.size w w1 := by
      refine Below.trans ?_ (hb.mono (by simp; omega))
      repeat (first | exact Below.refl _ _ | refine below_drewN ?_ _ | refine Below.setCell ?_ (by simp) _ | refine Below.alloc ?_ (by first | (simp; done) | (simp; omega)) _)
    have hk := cellb hb w.heap.size (by simp; omega)
    have hk2 := cellb hb (w.heap.size + 1) (by simp)
    have hz := hb.size
    clear hb
    simp at hz
    go_wp2_with fail
    exact bodyPost_ret (v := .agg #[.int .u64 lo, .int .u64 hi, .bool neg, .int .i64 calls, .int .u64 ask, .int .u64 first, .bool true, .int .u64 lo, .int .i64 0]) (by simp [results, Try.results52, go_sem, hk2]) rfl ⟨ret_val H.out.1 H.out.2.1 H.out.2.2.1 H.out.2.2.2, by (repeat (refine Below.setCell ?_ (by simp) _)); exact B⟩

set_option maxHeartbeats 1600000 in
theorem told_nan (lo hi : Nat) (neg : Bool) (calls : Int) (ask first : Nat) (done : Bool) (x : Nat) (e : Int) (v : Nat) (hv : F64 v) (h0 : 0 ≤ calls) (h9 : calls ≤ 1000) (hn : nn v = true) (w : World) :
    Calls Try.prog 25 #[.agg #[.int .u64 lo, .int .u64 hi, .bool neg, .int .i64 calls, .int .u64 ask, .int .u64 first, .bool done, .int .u64 x, .int .i64 e], .int .u64 v] w fun en w' =>
      en = .returned (.agg #[.int .u64 lo, .int .u64 hi, .bool neg, .int .i64 (calls + 1), .int .u64 ask, .int .u64 first, .bool true, .int .u64 0, .int .i64 91]) ∧ Below w.heap.size w w' := by
  go_enter Try.func25, Try.ntmps25
  go_wp2_with fail
  refine (rIsNaN_any _ hv _).mono ?_; rintro en w' ⟨rfl, rfl⟩
  go_wp2_with fail
  refine (ended_any lo hi neg _ ask first done x e 0 91 _).mono ?_; rintro en w1 ⟨rfl, hb⟩
  have B : Below w.heap.size w w1 := by
    refine Below.trans ?_ (hb.mono (by simp; omega))
    repeat (first | exact Below.refl _ _ | refine below_drewN ?_ _ | refine Below.setCell ?_ (by simp) _ | refine Below.alloc ?_ (by first | (simp; done) | (simp; omega)) _)
  have hk := cellb hb w.heap.size (by simp; omega)
  have hk2 := cellb hb (w.heap.size + 1) (by simp)
  have hz := hb.size
  clear hb
  simp at hz
  go_wp2_with fail
  exact bodyPost_ret (v := .agg #[.int .u64 lo, .int .u64 hi, .bool neg, .int .i64 (calls + 1), .int .u64 ask, .int .u64 first, .bool true, .int .u64 0, .int .i64 91]) (by simp [results, Try.results25, go_sem, hk2]) rfl ⟨rfl, by (repeat (refine Below.setCell ?_ (by simp) _)); exact B⟩

set_option maxHeartbeats 1600000 in
theorem told_1 (lo hi : Nat) (neg : Bool) (calls : Int) (ask first : Nat) (done : Bool) (x : Nat) (e : Int) (v : Nat) (hv : F64 v) (h : calls = 0) (hn : nn v = false) (w : World) :
    Calls Try.prog 25 #[.agg #[.int .u64 lo, .int .u64 hi, .bool neg, .int .i64 calls, .int .u64 ask, .int .u64 first, .bool done, .int .u64 x, .int .i64 e], .int .u64 v] w fun en w' =>
      en = .returned (.agg #[.int .u64 lo, .int .u64 hi, .bool neg, .int .i64 1, .int .u64 hi, .int .u64 v, .bool done, .int .u64 x, .int .i64 e]) ∧ Below w.heap.size w w' := by
  subst h
  go_enter Try.func25, Try.ntmps25
  go_wp2_with fail
  refine (rIsNaN_any _ hv _).mono ?_; rintro en w' ⟨rfl, rfl⟩
  go_wp2_with fail
  exact bodyPost_ret (v := .agg #[.int .u64 lo, .int .u64 hi, .bool neg, .int .i64 1, .int .u64 hi, .int .u64 v, .bool done, .int .u64 x, .int .i64 e]) (by simp [results, Try.results25, go_sem]) rfl ⟨rfl, ((Below.refl _ _).alloc (Nat.le_refl _) _).alloc (by simp) _⟩

set_option maxHeartbeats 1600000 in
theorem told_2a (lo hi : Nat) (neg : Bool) (calls : Int) (ask first : Nat) (done : Bool) (x : Nat) (e : Int) (v : Nat) (hv : F64 v) (h : calls = 1) (hn : nn v = false) (hf : F64 first) (z : mg first = 0) (w : World) :
    Calls Try.prog 25 #[.agg #[.int .u64 lo, .int .u64 hi, .bool neg, .int .i64 calls, .int .u64 ask, .int .u64 first, .bool done, .int .u64 x, .int .i64 e], .int .u64 v] w fun en w' =>
      en = .returned (.agg #[.int .u64 lo, .int .u64 hi, .bool neg, .int .i64 2, .int .u64 ask, .int .u64 first, .bool true, .int .u64 lo, .int .i64 0]) ∧ Below w.heap.size w w' := by
  subst h
  have z_first : ((mg first : Int) == 0) = true := by rw [beq_iff_eq]; omega
  clear z
  go_enter Try.func25, Try.ntmps25
  go_wp2_with fail
  refine (rIsNaN_any _ hv _).mono ?_; rintro en w' ⟨rfl, rfl⟩
  go_wp2_with fail
  refine (rSize_any _ hf _).mono ?_; rintro en w' ⟨rfl, rfl⟩
  go_wp2_with fail
  refine (ended_any lo hi neg _ ask first done x e lo 0 _).mono ?_; rintro en w1 ⟨rfl, hb⟩
  have B : Below w.heap.size w w1 := by
    refine Below.trans ?_ (hb.mono (by simp; omega))
    repeat (first | exact Below.refl _ _ | refine below_drewN ?_ _ | refine Below.setCell ?_ (by simp) _ | refine Below.alloc ?_ (by first | (simp; done) | (simp; omega)) _)
  have hk := cellb hb w.heap.size (by simp; omega)
  have hk2 := cellb hb (w.heap.size + 1) (by simp)
  have hz := hb.size
  clear hb
  simp at hz
  go_wp2_with fail
  exact bodyPost_ret (v := .agg #[.int .u64 lo, .int .u64 hi, .bool neg, .int .i64 2, .int .u64 ask, .int .u64 first, .bool true, .int .u64 lo, .int .i64 0]) (by simp [results, Try.results25, go_sem, hk2]) rfl ⟨rfl, by (repeat (refine Below.setCell ?_ (by simp) _)); exact B⟩

set_option maxHeartbeats 1600000 in
theorem told_2b (lo hi : Nat) (neg : Bool) (calls : Int) (ask first : Nat) (done : Bool) (x : Nat) (e : Int) (v : Nat) (hv : F64 v) (h : calls = 1) (hn : nn v = false) (hf : F64 first) (z : mg first ≠ 0) (y : mg v = 0) (w : World) :
    Calls Try.prog 25 #[.agg #[.int .u64 lo, .int .u64 hi, .bool neg, .int .i64 calls, .int .u64 ask, .int .u64 first, .bool done, .int .u64 x, .int .i64 e], .int .u64 v] w fun en w' =>
      en = .returned (.agg #[.int .u64 lo, .int .u64 hi, .bool neg, .int .i64 2, .int .u64 ask, .int .u64 first, .bool true, .int .u64 hi, .int .i64 0]) ∧ Below w.heap.size w w' := by
  subst h
  have z_first : ((mg first : Int) == 0) = false := by rw [beq_eq_false_iff_ne]; omega
  have z_v : ((mg v : Int) == 0) = true := by rw [beq_iff_eq]; omega
  clear z y
  go_enter Try.func25, Try.ntmps25
  go_wp2_with fail
  refine (rIsNaN_any _ hv _).mono ?_; rintro en w' ⟨rfl, rfl⟩
  go_wp2_with fail
  refine (rSize_any _ hf _).mono ?_; rintro en w' ⟨rfl, rfl⟩
  go_wp2_with fail
  refine (rSize_any _ hv _).mono ?_; rintro en w' ⟨rfl, rfl⟩
  go_wp2_with fail
  refine (ended_any lo hi neg _ ask first done x e hi 0 _).mono ?_; rintro en w1 ⟨rfl, hb⟩
  have B : Below w.heap.size w w1 := by
    refine Below.trans ?_ (hb.mono (by simp; omega))
    repeat (first | exact Below.refl _ _ | refine below_drewN ?_ _ | refine Below.setCell ?_ (by simp) _ | refine Below.alloc ?_ (by first | (simp; done) | (simp; omega)) _)
  have hk := cellb hb w.heap.size (by simp; omega)
  have hk2 := cellb hb (w.heap.size + 1) (by simp)
  have hz := hb.size
  clear hb
  simp at hz
  go_wp2_with fail
  exact bodyPost_ret (v := .agg #[.int .u64 lo, .int .u64 hi, .bool neg, .int .i64 2, .int .u64 ask, .int .u64 first, .bool true, .int .u64 hi, .int .i64 0]) (by simp [results, Try.results25, go_sem, hk2]) rfl ⟨rfl, by (repeat (refine Below.setCell ?_ (by simp) _)); exact B⟩

set_option maxHeartbeats 1600000 in
theorem told_2c (lo hi : Nat) (neg : Bool) (calls : Int) (ask first : Nat) (done : Bool) (x : Nat) (e : Int) (v : Nat) (hv : F64 v) (h : calls = 1) (hn : nn v = false) (hf : F64 first) (z : mg first ≠ 0) (y : mg v ≠ 0) (g : ng v = ng first) (w : World) :
    Calls Try.prog 25 #[.agg #[.int .u64 lo, .int .u64 hi, .bool neg, .int .i64 calls, .int .u64 ask, .int .u64 first, .bool done, .int .u64 x, .int .i64 e], .int .u64 v] w fun en w' =>
      en = .returned (.agg #[.int .u64 lo, .int .u64 hi, .bool (ng first), .int .i64 2, .int .u64 ask, .int .u64 first, .bool true, .int .u64 0, .int .i64 120]) ∧ Below w.heap.size w w' := by
  subst h
  have z_first : ((mg first : Int) == 0) = false := by rw [beq_eq_false_iff_ne]; omega
  have z_v : ((mg v : Int) == 0) = false := by rw [beq_eq_false_iff_ne]; omega
  have g2 : (ng v == ng first) = true := by simp [g]
  clear z y g
  go_enter Try.func25, Try.ntmps25
  go_wp2_with fail
  refine (rIsNaN_any _ hv _).mono ?_; rintro en w' ⟨rfl, rfl⟩
  go_wp2_with fail
  refine (rSize_any _ hf _).mono ?_; rintro en w' ⟨rfl, rfl⟩
  go_wp2_with fail
  refine (rSize_any _ hv _).mono ?_; rintro en w' ⟨rfl, rfl⟩
  go_wp2_with fail
  refine (rNegative_any _ _).mono ?_; rintro en w' ⟨rfl, rfl⟩
  go_wp2_with fail
  go_quiet ((go_at_call 51; exact Calls.quiet_of_same ((rNegative_any _ _).mono fun _ _ h => ⟨h.1, h.2.symm⟩)))
  go_wp2_with fail
  refine (ended_any lo hi (ng first) _ ask first done x e 0 120 _).mono ?_; rintro en w1 ⟨rfl, hb⟩
  have B : Below w.heap.size w w1 := by
    refine Below.trans ?_ (hb.mono (by simp; omega))
    repeat (first | exact Below.refl _ _ | refine below_drewN ?_ _ | refine Below.setCell ?_ (by simp) _ | refine Below.alloc ?_ (by first | (simp; done) | (simp; omega)) _)
  have hk := cellb hb w.heap.size (by simp; omega)
  have hk2 := cellb hb (w.heap.size + 1) (by simp)
  have hz := hb.size
  clear hb
  simp at hz
  go_wp2_with fail
  exact bodyPost_ret (v := .agg #[.int .u64 lo, .int .u64 hi, .bool (ng first), .int .i64 2, .int .u64 ask, .int .u64 first, .bool true, .int .u64 0, .int .i64 120]) (by simp [results, Try.results25, go_sem, hk2]) rfl ⟨rfl, by (repeat (refine Below.setCell ?_ (by simp) _)); exact B⟩

set_option maxHeartbeats 1600000 in
theorem told_2d (lo hi : Nat) (neg : Bool) (calls : Int) (ask first : Nat) (done : Bool) (x : Nat) (e : Int) (v : Nat) (hv : F64 v) (h : calls = 1) (hn : nn v = false) (hf : F64 first) (z : mg first ≠ 0) (y : mg v ≠ 0) (g : ¬ ng v = ng first) (hlo : F64 lo) (hhi : F64 hi) (hx0 : nn lo = false) (hy0 : nn hi = false) (w : World) :
    Calls Try.prog 25 #[.agg #[.int .u64 lo, .int .u64 hi, .bool neg, .int .i64 calls, .int .u64 ask, .int .u64 first, .bool done, .int .u64 x, .int .i64 e], .int .u64 v] w fun en w' =>
      en = .returned (.agg #[.int .u64 lo, .int .u64 hi, .bool (ng first), .int .i64 2, .int .u64 (hAsk lo hi ask), .int .u64 first, .bool (hDone lo hi done), .int .u64 (hX lo hi x), .int .i64 (hE lo hi e)]) ∧ Below w.heap.size w w' := by
  subst h
  have z_first : ((mg first : Int) == 0) = false := by rw [beq_eq_false_iff_ne]; omega
  have z_v : ((mg v : Int) == 0) = false := by rw [beq_eq_false_iff_ne]; omega
  have g2 : (ng v == ng first) = false := by simp [g]
  have HX := Hd.mk hx0
  have HY := Hd.mk hy0
  clear z y g hx0 hy0
  go_enter Try.func25, Try.ntmps25
  go_wp2_with fail
  refine (rIsNaN_any _ hv _).mono ?_; rintro en w' ⟨rfl, rfl⟩
  go_wp2_with fail
  refine (rSize_any _ hf _).mono ?_; rintro en w' ⟨rfl, rfl⟩
  go_wp2_with fail
  refine (rSize_any _ hv _).mono ?_; rintro en w' ⟨rfl, rfl⟩
  go_wp2_with fail
  refine (rNegative_any _ _).mono ?_; rintro en w' ⟨rfl, rfl⟩
  go_wp2_with fail
  go_quiet ((go_at_call 51; exact Calls.quiet_of_same ((rNegative_any _ _).mono fun _ _ h => ⟨h.1, h.2.symm⟩)))
  go_wp2_with fail
  refine (halved_any lo hi (ng first) _ ask first done x e hlo hhi HX.out HY.out _).mono ?_; rintro en w1 ⟨rfl, hb⟩
  have B : Below w.heap.size w w1 := by
    refine Below.trans ?_ (hb.mono (by simp; omega))
    repeat (first | exact Below.refl _ _ | refine below_drewN ?_ _ | refine Below.setCell ?_ (by simp) _ | refine Below.alloc ?_ (by first | (simp; done) | (simp; omega)) _)
  have hk := cellb hb w.heap.size (by simp; omega)
  have hk2 := cellb hb (w.heap.size + 1) (by simp)
  have hz := hb.size
  clear hb
  simp at hz
  go_wp2_with fail
  exact bodyPost_ret (v := .agg #[.int .u64 lo, .int .u64 hi, .bool (ng first), .int .i64 2, .int .u64 (hAsk lo hi ask), .int .u64 first, .bool (hDone lo hi done), .int .u64 (hX lo hi x), .int .i64 (hE lo hi e)]) (by simp [results, Try.results25, go_sem, hk2]) rfl ⟨rfl, by (repeat (refine Below.setCell ?_ (by simp) _)); exact B⟩

set_option maxHeartbeats 1600000 in
theorem told_3a (lo hi : Nat) (neg : Bool) (calls : Int) (ask first : Nat) (done : Bool) (x : Nat) (e : Int) (v : Nat) (hv : F64 v) (h0 : 2 ≤ calls) (h9 : calls ≤ 1000) (hn : nn v = false) (y : mg v = 0) (w : World) :
    Calls Try.prog 25 #[.agg #[.int .u64 lo, .int .u64 hi, .bool neg, .int .i64 calls, .int .u64 ask, .int .u64 first, .bool done, .int .u64 x, .int .i64 e], .int .u64 v] w fun en w' =>
      en = .returned (.agg #[.int .u64 lo, .int .u64 hi, .bool neg, .int .i64 (calls + 1), .int .u64 ask, .int .u64 first, .bool true, .int .u64 ask, .int .i64 0]) ∧ Below w.heap.size w w' := by
  have c1 : (calls + 1 == 1) = false := by rw [beq_eq_false_iff_ne]; omega
  have c2 : (calls + 1 == 2) = false := by rw [beq_eq_false_iff_ne]; omega
  have z_v : ((mg v : Int) == 0) = true := by rw [beq_iff_eq]; omega
  clear y
  go_enter Try.func25, Try.ntmps25
  go_wp2_with fail
  refine (rIsNaN_any _ hv _).mono ?_; rintro en w' ⟨rfl, rfl⟩
  go_wp2_with fail
  refine (rSize_any _ hv _).mono ?_; rintro en w' ⟨rfl, rfl⟩
  go_wp2_with fail
  refine (ended_any lo hi neg _ ask first done x e ask 0 _).mono ?_; rintro en w1 ⟨rfl, hb⟩
  have B : Below w.heap.size w w1 := by
    refine Below.trans ?_ (hb.mono (by simp; omega))
    repeat (first | exact Below.refl _ _ | refine below_drewN ?_ _ | refine Below.setCell ?_ (by simp) _ | refine Below.alloc ?_ (by first | (simp; done) | (simp; omega)) _)
  have hk := cellb hb w.heap.size (by simp; omega)
  have hk2 := cellb hb (w.heap.size + 1) (by simp)
  have hz := hb.size
  clear hb
  simp at hz
  go_wp2_with fail
  exact bodyPost_ret (v := .agg #[.int .u64 lo, .int .u64 hi, .bool neg, .int .i64 (calls + 1), .int .u64 ask, .int .u64 first, .bool true, .int .u64 ask, .int .i64 0]) (by simp [results, Try.results25, go_sem, hk2]) rfl ⟨rfl, by (repeat (refine Below.setCell ?_ (by simp) _)); exact B⟩

set_option maxHeartbeats 1600000 in
theorem told_3b (lo hi : Nat) (neg : Bool) (calls : Int) (ask first : Nat) (done : Bool) (x : Nat) (e : Int) (v : Nat) (hv : F64 v) (h0 : 2 ≤ calls) (h9 : calls ≤ 1000) (hn : nn v = false) (y : mg v ≠ 0) (g : ng v = neg) (hlo : F64 ask) (hhi : F64 hi) (hx0 : nn ask = false) (hy0 : nn hi = false) (w : World) :
    Calls Try.prog 25 #[.agg #[.int .u64 lo, .int .u64 hi, .bool neg, .int .i64 calls, .int .u64 ask, .int .u64 first, .bool done, .int .u64 x, .int .i64 e], .int .u64 v] w fun en w' =>
      en = .returned (.agg #[.int .u64 ask, .int .u64 hi, .bool neg, .int .i64 (calls + 1), .int .u64 (hAsk ask hi ask), .int .u64 first, .bool (hDone ask hi done), .int .u64 (hX ask hi x), .int .i64 (hE ask hi e)]) ∧ Below w.heap.size w w' := by
  have c1 : (calls + 1 == 1) = false := by rw [beq_eq_false_iff_ne]; omega
  have c2 : (calls + 1 == 2) = false := by rw [beq_eq_false_iff_ne]; omega
  have z_v : ((mg v : Int) == 0) = false := by rw [beq_eq_false_iff_ne]; omega
  have g2 : (ng v == neg) = true := by simp [g]
  have HX := Hd.mk hx0
  have HY := Hd.mk hy0
  clear y g hx0 hy0
  go_enter Try.func25, Try.ntmps25
  go_wp2_with fail
  refine (rIsNaN_any _ hv _).mono ?_; rintro en w' ⟨rfl, rfl⟩
  go_wp2_with fail
  refine (rSize_any _ hv _).mono ?_; rintro en w' ⟨rfl, rfl⟩
  go_wp2_with fail
  go_quiet ((go_at_call 51; exact Calls.quiet_of_same ((rNegative_any _ _).mono fun _ _ h => ⟨h.1, h.2.symm⟩)))
  go_wp2_with fail
  refine (halved_any ask hi neg _ ask first done x e hlo hhi HX.out HY.out _).mono ?_; rintro en w1 ⟨rfl, hb⟩
  have B : Below w.heap.size w w1 := by
    refine Below.trans ?_ (hb.mono (by simp; omega))
    repeat (first | exact Below.refl _ _ | refine below_drewN ?_ _ | refine Below.setCell ?_ (by simp) _ | refine Below.alloc ?_ (by first | (simp; done) | (simp; omega)) _)
  have hk := cellb hb w.heap.size (by simp; omega)
  have hk2 := cellb hb (w.heap.size + 1) (by simp)
  have hz := hb.size
  clear hb
  simp at hz
  go_wp2_with fail
  exact bodyPost_ret (v := .agg #[.int .u64 ask, .int .u64 hi, .bool neg, .int .i64 (calls + 1), .int .u64 (hAsk ask hi ask), .int .u64 first, .bool (hDone ask hi done), .int .u64 (hX ask hi x), .int .i64 (hE ask hi e)]) (by simp [results, Try.results25, go_sem, hk2]) rfl ⟨rfl, by (repeat (refine Below.setCell ?_ (by simp) _)); exact B⟩

set_option maxHeartbeats 1600000 in
theorem told_3c (lo hi : Nat) (neg : Bool) (calls : Int) (ask first : Nat) (done : Bool) (x : Nat) (e : Int) (v : Nat) (hv : F64 v) (h0 : 2 ≤ calls) (h9 : calls ≤ 1000) (hn : nn v = false) (y : mg v ≠ 0) (g : ¬ ng v = neg) (hlo : F64 lo) (hhi : F64 ask) (hx0 : nn lo = false) (hy0 : nn ask = false) (w : World) :
    Calls Try.prog 25 #[.agg #[.int .u64 lo, .int .u64 hi, .bool neg, .int .i64 calls, .int .u64 ask, .int .u64 first, .bool done, .int .u64 x, .int .i64 e], .int .u64 v] w fun en w' =>
      en = .returned (.agg #[.int .u64 lo, .int .u64 ask, .bool neg, .int .i64 (calls + 1), .int .u64 (hAsk lo ask ask), .int .u64 first, .bool (hDone lo ask done), .int .u64 (hX lo ask x), .int .i64 (hE lo ask e)]) ∧ Below w.heap.size w w' := by
  have c1 : (calls + 1 == 1) = false := by rw [beq_eq_false_iff_ne]; omega
  have c2 : (calls + 1 == 2) = false := by rw [beq_eq_false_iff_ne]; omega
  have z_v : ((mg v : Int) == 0) = false := by rw [beq_eq_false_iff_ne]; omega
  have g2 : (ng v == neg) = false := by simp [g]
  have HX := Hd.mk hx0
  have HY := Hd.mk hy0
  clear y g hx0 hy0
  go_enter Try.func25, Try.ntmps25
  go_wp2_with fail
  refine (rIsNaN_any _ hv _).mono ?_; rintro en w' ⟨rfl, rfl⟩
  go_wp2_with fail
  refine (rSize_any _ hv _).mono ?_; rintro en w' ⟨rfl, rfl⟩
  go_wp2_with fail
  go_quiet ((go_at_call 51; exact Calls.quiet_of_same ((rNegative_any _ _).mono fun _ _ h => ⟨h.1, h.2.symm⟩)))
  go_wp2_with fail
  refine (halved_any lo ask neg _ ask first done x e hlo hhi HX.out HY.out _).mono ?_; rintro en w1 ⟨rfl, hb⟩
  have B : Below w.heap.size w w1 := by
    refine Below.trans ?_ (hb.mono (by simp; omega))
    repeat (first | exact Below.refl _ _ | refine below_drewN ?_ _ | refine Below.setCell ?_ (by simp) _ | refine Below.alloc ?_ (by first | (simp; done) | (simp; omega)) _)
  have hk := cellb hb w.heap.size (by simp; omega)
  have hk2 := cellb hb (w.heap.size + 1) (by simp)
  have hz := hb.size
  clear hb
  simp at hz
  go_wp2_with fail
  exact bodyPost_ret (v := .agg #[.int .u64 lo, .int .u64 ask, .bool neg, .int .i64 (calls + 1), .int .u64 (hAsk lo ask ask), .int .u64 first, .bool (hDone lo ask done), .int .u64 (hX lo ask x), .int .i64 (hE lo ask e)]) (by simp [results, Try.results25, go_sem, hk2]) rfl ⟨rfl, by (repeat (refine Below.setCell ?_ (by simp) _)); exact B⟩

end Go.Proofs.Ytjhkjekbadbgnaa
