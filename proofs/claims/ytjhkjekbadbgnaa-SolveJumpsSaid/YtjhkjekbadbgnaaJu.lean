/- The walk of SolveJumps. -/
import Derived.Test.YtjhkjekbadbgnaaAw
import Derived.Test.YtjhkjekbadbgnaaSs
import Derived.WalkSmall
namespace Go.Proofs.Ytjhkjekbadbgnaa
open Go.RowKit

/-- What the closure answers. -/
def gJ (at_ : Nat) (turned : Bool) (y : Nat) : Nat := if decide (rk y ≤ rk at_) != turned then 13837309855095848960 else 4617315517961601024

/-- What holds of the world when the closure has been asked n times. -/
structure JI (W : World) (s lo hi at_ : Nat) (turned : Bool) (n : Nat) (w : World) : Prop where
  below : Below s W w
  size : s + 6 ≤ w.heap.size
  clo : w.cell? ⟨s, 0, none⟩ = some (.float .f64 lo)
  chi : w.cell? ⟨s + 1, 0, none⟩ = some (.float .f64 hi)
  cat : w.cell? ⟨s + 2, 0, none⟩ = some (.float .f64 at_)
  ctu : w.cell? ⟨s + 3, 0, none⟩ = some (.bool turned)
  ccalls : w.cell? ⟨s + 4, 0, none⟩ = some (.int .i64 n)
  cout : w.cell? ⟨s + 5, 0, none⟩ = some (.int .i64 0)
  fr : w.frozen? ⟨s + 4, 0, none⟩ = false

theorem JI.stable {W : World} {s lo hi at_ : Nat} {turned : Bool} {n : Nat} {w w' : World} (h : JI W s lo hi at_ turned n w) (k : Below (s + 6) w w') : JI W s lo hi at_ turned n w' where
  below := h.below.trans (k.mono (by omega))
  size := Nat.le_trans h.size k.size
  clo := by rw [k.cell (p := ⟨s, 0, none⟩) (by show s < s + 6; omega)]; exact h.clo
  chi := by rw [k.cell (p := ⟨s + 1, 0, none⟩) (by show s + 1 < s + 6; omega)]; exact h.chi
  cat := by rw [k.cell (p := ⟨s + 2, 0, none⟩) (by show s + 2 < s + 6; omega)]; exact h.cat
  ctu := by rw [k.cell (p := ⟨s + 3, 0, none⟩) (by show s + 3 < s + 6; omega)]; exact h.ctu
  ccalls := by rw [k.cell (p := ⟨s + 4, 0, none⟩) (by show s + 4 < s + 6; omega)]; exact h.ccalls
  cout := by rw [k.cell (p := ⟨s + 5, 0, none⟩) (by show s + 5 < s + 6; omega)]; exact h.cout
  fr := by rw [k.frozen (p := ⟨s + 4, 0, none⟩) (by show s + 4 < s + 6; omega)]; exact h.fr

set_option maxHeartbeats 1600000 in
theorem jump_call (W : World) (s lo hi at_ : Nat) (turned : Bool) (n : Nat) (hn : n ≤ 1000) (w : World) (hI : JI W s lo hi at_ turned n w) (flo : F64 lo) (fhi : F64 hi) (fat : F64 at_) (nlo : nn lo = false) (nhi : nn hi = false) (nat : nn at_ = false)
    (y : Nat) (fy : F64 y) (ny : nn y = false) (h1 : rk lo ≤ rk y) (h2 : rk y ≤ rk hi) :
    Calls Try.prog 21 #[.float .f64 y, .pointer (some ⟨s + 4, 0, none⟩), .pointer (some ⟨s, 0, none⟩), .pointer (some ⟨s + 1, 0, none⟩), .pointer (some ⟨s + 5, 0, none⟩), .pointer (some ⟨s + 2, 0, none⟩), .pointer (some ⟨s + 3, 0, none⟩)] w fun e w' =>
      e = .returned (.float .f64 (gJ at_ turned y)) ∧ w' = w.setCell ⟨s + 4, 0, none⟩ (.int .i64 ((n : Int) + 1)) := by
  have a1 : (FloatKind.f64.format.order y lo == some .lt) = false := by rw [flt y lo fy flo, ny, nlo]; simp; omega
  have a2 : (FloatKind.f64.format.order y hi == some .gt) = false := by rw [fgt y hi fy fhi, ny, nhi]; simp; omega
  have a3 : (FloatKind.f64.format.order y y != some .eq) = false := by rw [bne, feq y y fy fy, ny]; simp
  have a4 := fle y at_ fy fat ny nat
  have c1 := hI.clo
  have c2 := hI.chi
  have c3 := hI.cat
  have c4 := hI.ctu
  have c5 := hI.ccalls
  have c6 := hI.fr
  clear hI h1 h2
  have hn' : (n : Int) ≤ 1000 := by omega
  clear hn
  cases hd : decide (rk y ≤ rk at_) <;> rw [hd] at a4 <;> cases turned
  · have H : Hd (4617315517961601024 = gJ at_ false y) := ⟨by unfold gJ; rw [hd]; rfl⟩
    clear hd
    go_enter Try.func21, Try.ntmps21
    go_wp2
    go_ret
    exact ⟨ret_float H.out, rfl⟩
  · have H : Hd (13837309855095848960 = gJ at_ true y) := ⟨by unfold gJ; rw [hd]; rfl⟩
    clear hd
    go_enter Try.func21, Try.ntmps21
    go_wp2
    go_ret
    exact ⟨ret_float H.out, rfl⟩
  · have H : Hd (13837309855095848960 = gJ at_ false y) := ⟨by unfold gJ; rw [hd]; rfl⟩
    clear hd
    go_enter Try.func21, Try.ntmps21
    go_wp2
    go_ret
    exact ⟨ret_float H.out, rfl⟩
  · have H : Hd (4617315517961601024 = gJ at_ true y) := ⟨by unfold gJ; rw [hd]; rfl⟩
    clear hd
    go_enter Try.func21, Try.ntmps21
    go_wp2
    go_ret
    exact ⟨ret_float H.out, rfl⟩

theorem cn_gJ (at_ : Nat) (turned : Bool) (y : Nat) : F64 (gJ at_ turned y) ∧ nn (gJ at_ turned y) = false ∧ rk (gJ at_ turned y) ≠ 0 ∧ (decide (0 < rk (gJ at_ turned y)) = !(decide (rk y ≤ rk at_) != turned)) := by
  unfold gJ
  cases (decide (rk y ≤ rk at_) != turned)
  · refine ⟨⟨by decide⟩, by unfold nn mg INF; decide, by unfold rk ng mg; decide, by unfold rk ng mg; decide⟩
  · refine ⟨⟨by decide⟩, by unfold nn mg INF; decide, by unfold rk ng mg; decide, by unfold rk ng mg; decide⟩

theorem jump_fun (W : World) (s lo hi at_ : Nat) (turned : Bool) (flo : F64 lo) (fhi : F64 hi) (fat : F64 at_) (nlo : nn lo = false) (nhi : nn hi = false) (nat : nn at_ = false) :
    Fun1 21 #[.pointer (some ⟨s + 4, 0, none⟩), .pointer (some ⟨s, 0, none⟩), .pointer (some ⟨s + 1, 0, none⟩), .pointer (some ⟨s + 5, 0, none⟩), .pointer (some ⟨s + 2, 0, none⟩), .pointer (some ⟨s + 3, 0, none⟩)]
      (s + 6) (JI W s lo hi at_ turned) (fun y => nn y = false ∧ rk lo ≤ rk y ∧ rk y ≤ rk hi) (gJ at_ turned) where
  enter := fun args w => enter_of Try.func21 (by kernel_rfl) rfl args w
  stable := fun _ _ _ h k => h.stable k
  calls := fun n y w hI hn _ hy hD => by
    refine (jump_call W s lo hi at_ turned n hn w hI flo fhi fat nlo nhi nat y hy hD.1 hD.2.1 hD.2.2).mono ?_
    rintro e w' ⟨rfl, rfl⟩
    have hg := cn_gJ at_ turned y
    refine ⟨_, rfl, hg.1, ⟨cn_of _ hg.2.1⟩, ⟨?_⟩, ⟨?_, ?_⟩⟩
    · have ne : ∀ k, k ≠ 4 → (⟨s + 4, 0, none⟩ : Addr) ≠ ⟨s + k, 0, none⟩ := by
        intro k hk h; injection h with h1; omega
      exact {
        below := hI.below.setCell (by show s ≤ s + 4; omega) _
        size := by simp [World.setCell]; exact hI.size
        clo := by rw [World.cell?_setCell_other _ _ _ _ (show (⟨s + 4, 0, none⟩ : Addr) ≠ ⟨s, 0, none⟩ from ne 0 (by omega))]; exact hI.clo
        chi := by rw [World.cell?_setCell_other _ _ _ _ (ne 1 (by omega))]; exact hI.chi
        cat := by rw [World.cell?_setCell_other _ _ _ _ (ne 2 (by omega))]; exact hI.cat
        ctu := by rw [World.cell?_setCell_other _ _ _ _ (ne 3 (by omega))]; exact hI.ctu
        ccalls := by rw [World.cell?_setCell_same _ _ _ hI.ccalls]; rfl
        cout := by rw [World.cell?_setCell_other _ _ _ _ (ne 5 (by omega))]; exact hI.cout
        fr := by have := hI.fr; go_simp }
    · intro b hb _
      exact Below.heap_setCell _ _ _ _ (by show b ≠ s + 4; omega)
    · simp [World.setCell]

theorem JI_start (W : World) (lo hi at_ : Nat) (turned : Bool) (m : Nat) : JI W W.heap.size lo hi at_ turned 0
    (((((((W.alloc (.cells #[.float .f64 lo] 23)).alloc (.cells #[.float .f64 hi] 23)).alloc (.cells #[.float .f64 at_] 23)).alloc (.cells #[.bool turned] 4)).drewN m).alloc (.cells #[.int .i64 0] 3)).alloc (.cells #[.int .i64 0] 3)) where
  below := ((below_drewN (((((Below.refl W.heap.size W).alloc (Nat.le_refl _) _).alloc (by simp) _).alloc (by simp; omega) _).alloc (by simp; omega) _) m).alloc (by simp; omega) _).alloc (by simp; omega) _
  size := by simp
  clo := by go_simp
  chi := by go_simp
  cat := by go_simp
  ctu := by go_simp
  ccalls := by go_simp
  cout := by go_simp
  fr := by go_simp

/-- Just the number behind which the sign changes is found. -/
theorem jump_root (lo hi at_ : Nat) (turned : Bool) (flo : F64 lo) (fhi : F64 hi) (f1 : fin lo = true) (f2 : fin hi = true) (h1 : rk lo ≤ rk at_) (h2 : rk at_ < rk hi) :
    ∃ x n, root (gJ at_ turned) lo hi = (x, n, 0) ∧ n ≤ 66 ∧ F64 x ∧ nn x = false ∧ rk x = rk at_ := by
  have hok : okEnds lo hi = true := by unfold okEnds; rw [f1, f2, decide_eq_true (by omega)]; rfl
  have sg := fun y => (cn_gJ at_ turned y).2.2.2
  have slo := sg lo
  rw [decide_eq_true h1] at slo
  cases root_is (gJ at_ turned) lo hi flo fhi with
  | arg h e => rw [h] at hok; cases hok
  | value h n x e w =>
    obtain ⟨y, hy⟩ := w
    rw [(cn_gJ at_ turned y).2.1] at hy; cases hy
  | zero h n e f nan l1 l2 v z => exact absurd z (cn_gJ at_ turned _).2.2.1
  | bracket h e a b az bz s =>
    have shi := sg hi
    rw [show decide (rk hi ≤ rk at_) = false from decide_eq_false (by omega)] at shi
    rw [slo, shi] at s
    cases turned <;> simp at s
  | found h n e f nan l1 l2 sa p u q up le w s =>
    refine ⟨_, _, Prod.ext rfl (Prod.ext rfl e), n, f, nan, ?_⟩
    have sx := p.sg
    have su := q.sg
    rw [sg] at sx su
    rw [slo] at s
    have a1 : rk (root (gJ at_ turned) lo hi).1 ≤ rk at_ := by
      refine Decidable.byContradiction fun hc => ?_
      rw [decide_eq_false hc, ← s] at sx
      cases turned <;> simp at sx
    have a2 : ¬ rk u ≤ rk at_ := by
      intro hc
      rw [decide_eq_true hc, ← s] at su
      exact su rfl
    have a3 : rk (Prod.fst (root (gJ at_ turned) lo hi)) = rk at_ := by omega
    exact a3

set_option maxHeartbeats 1600000 in
theorem jumps_any (lo hi at_ : Nat) (turned : Bool) (W : World) (flo : F64 lo) (fhi : F64 hi) (fat : F64 at_) :
    Calls Try.prog 4 #[.float .f64 lo, .float .f64 hi, .float .f64 at_, .bool turned] W fun e w' => e = .returned (.bool true) ∧ Below W.heap.size W w' := by
  have hmf : ∀ (fn : Fn) (first cap : Array Value) (w : World), (Instr.makeFunc fn first cap).run Try.prog w = .ok (.func fn first cap) w := fun _ _ _ _ => rfl
  cases h1 : (FloatKind.f64.format.order lo at_ == some .lt || FloatKind.f64.format.order lo at_ == some .eq)
  · go_enter Try.func4, Try.ntmps4
    go_wp2_with fail
    refine (awake_any _).mono ?_; rintro e w2 ⟨rfl, hb2⟩
    have B : Below W.heap.size W w2 := by
      have B4 := ((((Below.refl W.heap.size W).alloc (Nat.le_refl _) (.cells #[.float .f64 lo] 23)).alloc (by simp) (.cells #[.float .f64 hi] 23)).alloc (by simp; omega) (.cells #[.float .f64 at_] 23)).alloc (by simp; omega) (.cells #[.bool turned] 4)
      first | exact B4.trans (hb2.mono B4.size) | exact (below_drewN B4 _).trans (hb2.mono B4.size)
    clear hb2
    go_wp2_with fail
    go_ret
    exact ⟨rfl, B⟩
  · cases h2 : (FloatKind.f64.format.order at_ hi == some .lt)
    · go_enter Try.func4, Try.ntmps4
      go_wp2_with fail
      refine (awake_any _).mono ?_; rintro e w2 ⟨rfl, hb2⟩
      have B : Below W.heap.size W w2 := by
        have B4 := ((((Below.refl W.heap.size W).alloc (Nat.le_refl _) (.cells #[.float .f64 lo] 23)).alloc (by simp) (.cells #[.float .f64 hi] 23)).alloc (by simp; omega) (.cells #[.float .f64 at_] 23)).alloc (by simp; omega) (.cells #[.bool turned] 4)
        first | exact B4.trans (hb2.mono B4.size) | exact (below_drewN B4 _).trans (hb2.mono B4.size)
      clear hb2
      go_wp2_with fail
      go_ret
      exact ⟨rfl, B⟩
    · have s1 : ∀ w, (FloatKind.f64.format.order (fres .sub lo lo w) 0 != some .eq) = !fin lo := subself_ne lo flo
      have s2 : ∀ w, (FloatKind.f64.format.order (fres .sub hi hi w) 0 != some .eq) = !fin hi := subself_ne hi fhi
      cases f1 : fin lo
      · rw [f1] at s1
        simp only [Bool.not_false] at s1
        clear s2
        go_enter Try.func4, Try.ntmps4
        go_wp2_with fail
        refine (awake_any _).mono ?_; rintro e w2 ⟨rfl, hb2⟩
        have B : Below W.heap.size W w2 := by
          have B4 := ((((Below.refl W.heap.size W).alloc (Nat.le_refl _) (.cells #[.float .f64 lo] 23)).alloc (by simp) (.cells #[.float .f64 hi] 23)).alloc (by simp; omega) (.cells #[.float .f64 at_] 23)).alloc (by simp; omega) (.cells #[.bool turned] 4)
          first | exact B4.trans (hb2.mono B4.size) | exact (below_drewN B4 _).trans (hb2.mono B4.size)
        clear hb2
        go_wp2_with fail
        go_ret
        exact ⟨rfl, B⟩
      · rw [f1] at s1
        simp only [Bool.not_true] at s1
        cases f2 : fin hi
        · rw [f2] at s2
          simp only [Bool.not_false] at s2
          go_enter Try.func4, Try.ntmps4
          go_wp2_with fail
          refine (awake_any _).mono ?_; rintro e w2 ⟨rfl, hb2⟩
          have B : Below W.heap.size W w2 := by
            have B4 := ((((Below.refl W.heap.size W).alloc (Nat.le_refl _) (.cells #[.float .f64 lo] 23)).alloc (by simp) (.cells #[.float .f64 hi] 23)).alloc (by simp; omega) (.cells #[.float .f64 at_] 23)).alloc (by simp; omega) (.cells #[.bool turned] 4)
            first | exact B4.trans (hb2.mono B4.size) | exact (below_drewN B4 _).trans (hb2.mono B4.size)
          clear hb2
          go_wp2_with fail
          go_ret
          exact ⟨rfl, B⟩
        · rw [f2] at s2
          simp only [Bool.not_true] at s2
          have nlo := nn_fin lo f1
          have nhi := nn_fin hi f2
          have h3 : nn at_ = false ∧ rk at_ < rk hi := by
            rw [flt at_ hi fat fhi, nhi] at h2; simpa [and_assoc] using h2
          obtain ⟨nat, h4⟩ := h3
          have h5 : rk lo ≤ rk at_ := by
            rw [fle lo at_ flo fat nlo nat] at h1; exact of_decide_eq_true h1
          have HK := Hd.mk (And.intro (And.intro nlo (And.intro nhi nat)) (And.intro h4 h5))
          have HF := Hd.mk (And.intro f1 f2)
          clear nlo nhi nat h4 h5 f1 f2
          go_enter Try.func4, Try.ntmps4
          go_wp2_with fail
          obtain ⟨⟨nlo, nhi, nat⟩, h4, h5⟩ := HK.out
          obtain ⟨x, n, hT, h66, fx, nx, rx⟩ := jump_root lo hi at_ turned flo fhi HF.out.1 HF.out.2 h5 h4
          have HT := Hd.mk hT
          have o1 : (FloatKind.f64.format.order x at_ == some .eq) = true := by
            rw [feq x at_ fx fat, nx, nat, rx]; simp
          have d1 : decide ((n : Int) ≤ 66) = true := by simp; omega
          refine (root_any (jump_fun W W.heap.size lo hi at_ turned flo fhi fat nlo nhi nat) lo hi flo fhi _ (by simp) (JI_start W lo hi at_ turned _) (fun y _ ny k1 k2 => ⟨ny, k1, k2⟩)).mono ?_
          clear nlo nhi nat h4 h5 hT h66 nx rx h1 h2 s1 s2
          rintro e w1 ⟨rfl, hJ⟩
          rw [HT.out] at hJ ⊢
          have c3 : w1.cell? ⟨W.heap.size + 1 + 1, 0, none⟩ = some (.float .f64 at_) := hJ.cat
          have c4 : w1.cell? ⟨W.heap.size + 1 + 1 + 1 + 1, 0, none⟩ = some (.int .i64 n) := hJ.ccalls
          have c5 : w1.cell? ⟨W.heap.size + 1 + 1 + 1 + 1 + 1, 0, none⟩ = some (.int .i64 0) := hJ.cout
          have hb := hJ.below
          clear hJ
          go_wp2_with fail
          refine (awake_any _).mono ?_; rintro e w2 ⟨rfl, hb2⟩
          have B : Below W.heap.size W w2 := hb.trans (hb2.mono hb.size)
          clear hb hb2
          go_wp2_with fail
          go_ret
          exact ⟨rfl, B⟩

end Go.Proofs.Ytjhkjekbadbgnaa
