/- SolveOdd's walk. -/
import Derived.Test.YtjhkjekbadbgnaaBg
import Derived.Deep.LoopGhost
namespace Go.Proofs.Ytjhkjekbadbgnaa
open Go.RowKit
set_option linter.unusedSimpArgs false
set_option linter.unusedVariables false

/-- A block holds a search. -/
structure SC (w : World) (b : Nat) (lo hi : Nat) (neg : Bool) (calls ask first : Nat) (done : Bool) (x : Nat) (e : Int) : Prop where
  c0 : w.cell? ⟨b, 0, none⟩ = some (.int .u64 lo)
  c1 : w.cell? ⟨b, 1, none⟩ = some (.int .u64 hi)
  c2 : w.cell? ⟨b, 2, none⟩ = some (.bool neg)
  c3 : w.cell? ⟨b, 3, none⟩ = some (.int .i64 calls)
  c4 : w.cell? ⟨b, 4, none⟩ = some (.int .u64 ask)
  c5 : w.cell? ⟨b, 5, none⟩ = some (.int .u64 first)
  c6 : w.cell? ⟨b, 6, none⟩ = some (.bool done)
  c7 : w.cell? ⟨b, 7, none⟩ = some (.int .u64 x)
  c8 : w.cell? ⟨b, 8, none⟩ = some (.int .i64 e)
  fr : ∀ o, w.frozen? ⟨b, o, none⟩ = false

/-- What Root finds is a float64. -/
theorem F64_root (g : Nat → Nat) (lo hi : Nat) (flo : F64 lo) (fhi : F64 hi) {x n : Nat} {e : Int} (h : root g lo hi = (x, n, e)) : F64 x := by
  cases root_is g lo hi flo fhi with
  | arg _ e' => rw [h] at e'; injection e' with h1 h2; rw [h1]; exact ⟨by decide⟩
  | value _ _ x' _ _ => rw [h] at x'; have : x = 0 := x'; rw [this]; exact ⟨by decide⟩
  | zero _ _ _ f => rw [h] at f; exact f
  | bracket _ e' => rw [h] at e'; injection e' with h1 h2; rw [h1]; exact ⟨by decide⟩
  | found _ _ _ f => rw [h] at f; exact f

theorem odd_fun (by_ bb : Nat) (W : World) (hc : W.cell? ⟨bb, 0, none⟩ = some (.int .u64 by_)) :
    Fun1 22 #[.pointer (some ⟨bb, 0, none⟩)] W.heap.size (fun _ w' => Below W.heap.size W w') (fun _ => True) (fun y => oddB y by_) where
  enter := fun args w => enter_of Try.func22 (by kernel_rfl) rfl args w
  stable := fun _ _ _ h k => h.trans k
  calls := fun n y w hI _ _ hy _ => by
    refine (odd1_any y by_ bb w (cell_of_below hI (Nat.le_refl _) hc)).mono ?_
    rintro e w' ⟨n, rfl, rfl⟩
    exact ⟨_, rfl, F64_oddB _ _, ⟨cn_oddB _ _⟩, ⟨below_drewN hI n⟩, ⟨fun _ _ _ => rfl, Nat.le_refl _⟩⟩

set_option maxRecDepth 100000 in
set_option maxHeartbeats 1600000 in
theorem odds_any (lo hi by_ : Nat) (W : World) (flo : F64 lo) (fhi : F64 hi) :
    Calls Try.prog 5 #[.float .f64 lo, .float .f64 hi, .int .u64 by_] W fun e w' => e = .returned (.bool true) ∧ Below W.heap.size W w' := by
  have hmf : ∀ (fn : Fn) (first cap : Array Value) (w : World), (Instr.makeFunc fn first cap).run Try.prog w = .ok (.func fn first cap) w := fun _ _ _ _ => rfl
  go_enter Try.func5, Try.ntmps5
  go_wp2_with fail
  have h1 : (W.alloc (.cells #[.int .u64 by_] 28)).cell? ⟨W.heap.size, 0, none⟩ = some (.int .u64 by_) := by go_simp
  have hs : (W.alloc (.cells #[.int .u64 by_] 28)).heap.size = W.heap.size + 1 := by simp
  have hb0 : Below W.heap.size W (W.alloc (.cells #[.int .u64 by_] 28)) := (Below.refl _ _).alloc (Nat.le_refl _) _
  generalize (W.alloc (.cells #[.int .u64 by_] 28)) = W1 at *
  refine (root_any (odd_fun by_ W.heap.size W1 h1) lo hi flo fhi W1 (Nat.le_refl _) (Below.refl _ _) (fun _ _ _ _ _ => trivial)).mono ?_
  rintro e w1 ⟨rfl, hb1⟩
  obtain ⟨⟨X, N, E⟩, ht⟩ : ∃ t, root (fun y => oddB y by_) lo hi = t := ⟨_, rfl⟩
  rw [ht]
  have HT := Hd.mk ht
  clear ht
  have hc1 : w1.cell? ⟨W.heap.size, 0, none⟩ = some (.int .u64 by_) := cell_of_below hb1 (Nat.le_refl _) h1
  have B1 := hb0.trans (hb1.mono (by omega))
  have hz1 : W.heap.size < w1.heap.size := by have := hb1.size; omega
  clear h1 hs hb0 hb1
  go_wp2_with fail
  refine (apiBits_any _ _).mono ?_; rintro e w' ⟨rfl, rfl⟩
  go_wp2_with fail
  refine (apiBits_any _ _).mono ?_; rintro e w' ⟨rfl, rfl⟩
  go_wp2_with fail
  refine (begin_any (fun y => oddB y by_) lo hi flo fhi _).mono ?_
  rintro e w2 ⟨neg, calls, ask, first, done, x, er, rfl, hsr, hb2⟩
  have HSR := Hd.mk hsr
  have hc2 : w2.cell? ⟨W.heap.size, 0, none⟩ = some (.int .u64 by_) := cell_of_below hb2 (Nat.le_refl _) hc1
  have B2 := B1.trans (hb2.mono B1.size)
  have hz2 : W.heap.size < w2.heap.size := by have := hb2.size; omega
  clear hsr hb2 B1 hc1 hz1
  go_wp2_with fail
  have hcb : (w2.alloc (.cells #[.int .u64 lo, .int .u64 hi, .bool neg, .int .i64 calls, .int .u64 ask, .int .u64 first, .bool done, .int .u64 x, .int .i64 er] 30)).cell? ⟨W.heap.size, 0, none⟩ = some (.int .u64 by_) := by go_simp
  have hSC : SC (w2.alloc (.cells #[.int .u64 lo, .int .u64 hi, .bool neg, .int .i64 calls, .int .u64 ask, .int .u64 first, .bool done, .int .u64 x, .int .i64 er] 30)) w2.heap.size lo hi neg calls ask first done x er :=
    ⟨by go_simp, by go_simp, by go_simp, by go_simp, by go_simp, by go_simp, by go_simp, by go_simp, by go_simp, fun o => by go_simp⟩
  have B3 : Below W.heap.size W (w2.alloc (.cells #[.int .u64 lo, .int .u64 hi, .bool neg, .int .i64 calls, .int .u64 ask, .int .u64 first, .bool done, .int .u64 x, .int .i64 er] 30)) := B2.alloc B2.size _
  have hz3 : w2.heap.size < (w2.alloc (.cells #[.int .u64 lo, .int .u64 hi, .bool neg, .int .i64 calls, .int .u64 ask, .int .u64 first, .bool done, .int .u64 x, .int .i64 er] 30)).heap.size := by simp
  clear hc2 B2
  generalize (w2.alloc (.cells #[.int .u64 lo, .int .u64 hi, .bool neg, .int .i64 calls, .int .u64 ask, .int .u64 first, .bool done, .int .u64 x, .int .i64 er] 30)) = w3 at *
  generalize w2.heap.size = b at *
  go_loopg [24] 100 (fun kq _ w' => ∃ (lo' hi' : Nat) (neg : Bool) (calls ask first : Nat) (done : Bool) (x : Nat) (er : Int), Hd (SR (fun y => oddB y by_) lo hi kq lo' hi' neg calls ask first done x er) ∧ Hd (SC w' b lo' hi' neg calls ask first done x er) ∧
    w'.cell? ⟨W.heap.size, 0, none⟩ = some (.int .u64 by_) ∧ Hd (Below W.heap.size W w') ∧ b < w'.heap.size)
  case atStart => exact ⟨lo, hi, neg, calls, ask, first, done, x, er, HSR, ⟨hSC⟩, hcb, ⟨B3⟩, hz3⟩
  case round =>
    clear HSR hSC hcb B3 hz3
    obtain ⟨lo', hi', neg, calls, ask, first, done, x, er, HS, HC, hcb, HB, hbz⟩ := hrel
    have c0 := HC.out.c0
    have c1 := HC.out.c1
    have c2 := HC.out.c2
    have c3 := HC.out.c3
    have c4 := HC.out.c4
    have c5 := HC.out.c5
    have c6 := HC.out.c6
    have c7 := HC.out.c7
    have c8 := HC.out.c8
    have fr := HC.out.fr
    cases done
    · go_wp2_with fail
      refine wp_region_still_tail 6 (by kernel_rfl) (by kernel_rfl) ?_
      simp only [List.take_succ_cons, List.take_zero, List.drop_succ_cons, List.drop_zero]
      change wpStill _ _ wr.drew _ _ _
      still_step
      still_step
      still_step
      still_step
      still_call ((odd_any _ _ _).mono fun _ _ h => ⟨h.1, h.2.symm⟩)
      still_call ((apiBits_any _ _).mono fun _ _ h => ⟨h.1, h.2.symm⟩)
      refine wpStill_nil ?_
      change wpList _ _ _ _ _ wr.drew
      go_wp2_with fail
      refine (told_step (fun y => oddB y by_) lo hi gk lo' hi' neg calls ask first x er (fun y => F64_oddB _ _) HS.out wr.drew).mono ?_
      rintro en w4 ⟨n', lo2, hi2, neg2, calls2, ask2, first2, done2, x2, e2, hlt, rfl, hsr, hb⟩
      have HS2 := Hd.mk hsr
      have HL := Hd.mk hlt
      have hcb4 : w4.cell? ⟨W.heap.size, 0, none⟩ = some (.int .u64 by_) := cell_of_below (w := wr.drew) hb (Nat.le_refl _) (by go_simp)
      have hk := cellb hb b (by simp; exact hbz)
      have B4 : Below W.heap.size W w4 := HB.out.drew.trans (hb.mono HB.out.drew.size)
      have hz4 : b < w4.heap.size := Nat.lt_of_lt_of_le hbz hb.size
      have hne : ¬ b = W.heap.size := by omega
      clear hsr hlt hb hcb hbz
      go_wp2_with fail
      go_roundg n'
      case measure => exact HL.out
      case rel =>
        refine ⟨lo2, hi2, neg2, calls2, ask2, first2, done2, x2, e2, HS2, ⟨⟨by go_simp, by go_simp, by go_simp, by go_simp, by go_simp, by go_simp, by go_simp, by go_simp, by go_simp, fun o => by go_simp⟩⟩, by go_simp, ⟨?_⟩, by simp [World.setCell]; exact hz4⟩
        repeat (refine Below.setCell ?_ (by show W.heap.size ≤ b; omega) _)
        exact B4
    · have hr : (X, N, E) = (x, calls, er) := by
        have := HS.out
        cases this with
        | done _ _ _ _ _ _ _ _ _ r => rw [← HT.out, r]
      obtain ⟨rfl, rfl, rfl⟩ : X = x ∧ N = calls ∧ E = er := by simpa using hr
      have FX : Hd (F64 X) := ⟨F64_root _ lo hi flo fhi HT.out⟩
      have hs1 : same X X = true := by unfold same; simp
      clear hr c0 c1 c2 c4 c5 fr hcb hbz
      go_wp2_with fail
      refine (is_any X X FX.out FX.out _).mono ?_; rintro en w' ⟨rfl, rfl⟩
      go_wp2_with fail
      refine (awake_any _).mono ?_; rintro en w5 ⟨rfl, hb5⟩
      have B5 := HB.out.trans (hb5.mono HB.out.size)
      clear hb5
      go_wp2_with fail
      go_ret
      exact ⟨rfl, B5⟩

theorem odds_int (lo hi : Nat) (by_ : Int) (W : World) (flo : F64 lo) (fhi : F64 hi) (wf : (Lit.int .u64 by_).wf = true) :
    Calls Try.prog 5 #[.float .f64 lo, .float .f64 hi, .int .u64 by_] W fun e w' => e = .returned (.bool true) ∧ Below W.heap.size W w' := by
  obtain ⟨k, rfl⟩ : ∃ k : Nat, by_ = k := by
    have : 0 ≤ by_ := by simp [Lit.wf, IntKind.min, IntKind.signed] at wf; exact wf.1
    exact ⟨by_.toNat, by omega⟩
  exact odds_any lo hi k W flo fhi

end Go.Proofs.Ytjhkjekbadbgnaa
