/- The walks of tenorref12: a search that goes on. -/
import Derived.Test.YtjhkjekbadbgnaaRk
import Derived.Test.YtjhkjekbadbgnaaBs
import Derived.WalkSmall
import Derived.Deep.QuietTactic
import Derived.BigQuiet
namespace Go.Proofs.Ytjhkjekbadbgnaa
open Go.RowKit
set_option linter.unusedSimpArgs false
set_option linter.unusedVariables false

theorem cellb {B : Nat} {w w' : World} (hb : Below B w w') (b : Nat) (h : b < B) : (∀ o, w'.cell? ⟨b, o, none⟩ = w.cell? ⟨b, o, none⟩) ∧ (∀ o, w'.frozen? ⟨b, o, none⟩ = w.frozen? ⟨b, o, none⟩) :=
  ⟨fun o => hb.cell (p := ⟨b, o, none⟩) h, fun o => hb.frozen (p := ⟨b, o, none⟩) h⟩

/-- Does halving end? -/
def hS (lo hi : Nat) : Bool := rk (md lo hi) == rk lo
def hAsk (lo hi ask : Nat) : Nat := if hS lo hi then ask else md lo hi
def hDone (lo hi : Nat) (done : Bool) : Bool := hS lo hi || done
def hX (lo hi x : Nat) : Nat := if hS lo hi then lo else x
def hE (lo hi : Nat) (e : Int) : Int := if hS lo hi then 0 else e
theorem h_stop {lo hi ask x : Nat} {done : Bool} {e : Int} (h : hS lo hi = true) : ask = hAsk lo hi ask ∧ true = hDone lo hi done ∧ lo = hX lo hi x ∧ 0 = hE lo hi e := by
  unfold hAsk hDone hX hE; rw [h]; exact ⟨rfl, rfl, rfl, rfl⟩
theorem h_go {lo hi ask x : Nat} {done : Bool} {e : Int} (h : hS lo hi = false) : md lo hi = hAsk lo hi ask ∧ done = hDone lo hi done ∧ x = hX lo hi x ∧ e = hE lo hi e := by
  unfold hAsk hDone hX hE; rw [h]; exact ⟨rfl, rfl, rfl, rfl⟩

set_option maxHeartbeats 800000 in
theorem ended_any (lo hi : Nat) (neg : Bool) (calls : Int) (ask first : Nat) (done : Bool) (x : Nat) (e : Int) (nx : Nat) (ne : Int) (w : World) :
    Calls Try.prog 48 #[.agg #[.int .u64 lo, .int .u64 hi, .bool neg, .int .i64 calls, .int .u64 ask, .int .u64 first, .bool done, .int .u64 x, .int .i64 e], .int .u64 nx, .int .i64 ne] w fun en w' =>
      en = .returned (.agg #[.int .u64 lo, .int .u64 hi, .bool neg, .int .i64 calls, .int .u64 ask, .int .u64 first, .bool true, .int .u64 nx, .int .i64 ne]) ∧ Below w.heap.size w w' := by
  go_enter Try.func48, Try.ntmps48
  go_wp2
  exact bodyPost_ret (v := .agg #[.int .u64 lo, .int .u64 hi, .bool neg, .int .i64 calls, .int .u64 ask, .int .u64 first, .bool true, .int .u64 nx, .int .i64 ne]) (by simp [results, Try.results48, go_sem]) rfl ⟨rfl, ((Below.refl _ _).alloc (Nat.le_refl _) _).alloc (by simp) _⟩

theorem ret_val {lo hi : Nat} {neg : Bool} {calls : Int} {ask ask' first : Nat} {done done' : Bool} {x x' : Nat} {e e' : Int} (h1 : ask = ask') (h2 : done = done') (h3 : x = x') (h4 : e = e') :
    Ending.returned (.agg #[.int .u64 lo, .int .u64 hi, .bool neg, .int .i64 calls, .int .u64 ask, .int .u64 first, .bool done, .int .u64 x, .int .i64 e]) = .returned (.agg #[.int .u64 lo, .int .u64 hi, .bool neg, .int .i64 calls, .int .u64 ask', .int .u64 first, .bool done', .int .u64 x', .int .i64 e']) := by rw [h1, h2, h3, h4]

set_option maxHeartbeats 1600000 in
theorem halved_any (lo hi : Nat) (neg : Bool) (calls : Int) (ask first : Nat) (done : Bool) (x : Nat) (e : Int) (hlo : F64 lo) (hhi : F64 hi) (hn : nn lo = false) (hm : nn hi = false) (w : World) :
    Calls Try.prog 52 #[.agg #[.int .u64 lo, .int .u64 hi, .bool neg, .int .i64 calls, .int .u64 ask, .int .u64 first, .bool done, .int .u64 x, .int .i64 e]] w fun en w' =>
      en = .returned (.agg #[.int .u64 lo, .int .u64 hi, .bool neg, .int .i64 calls, .int .u64 (hAsk lo hi ask), .int .u64 first, .bool (hDone lo hi done), .int .u64 (hX lo hi x), .int .i64 (hE lo hi e)]) ∧ Below w.heap.size w w' := by
  have HN := Hd.mk hn
  have HM := Hd.mk hm
  clear hn hm
  cases hs : hS lo hi
  · have H := Hd.mk (h_go (ask := ask) (done := done) (x := x) (e := e) hs)
    have h : (rk (md lo hi) == rk lo) = false := hs
    clear hs
    go_enter Try.func52, Try.ntmps52
    go_wp2_with fail
    refine (rMid_any lo hi hlo hhi HN.out HM.out _).mono ?_; rintro en w' ⟨rfl, rfl⟩
    rw [show atk ((rk lo + rk hi) / 2) = md lo hi from rfl]
    go_wp2_with fail
    refine (rRank_any (md lo hi) (md_rk HN.out HM.out).2.1 (md_rk HN.out HM.out).2.2 _).mono ?_; rintro en w' ⟨rfl, rfl⟩
    go_wp2_with fail
    refine (rRank_any lo hlo HN.out _).mono ?_; rintro en w' ⟨rfl, rfl⟩
    go_wp2_with fail
    exact bodyPost_ret (v := .agg #[.int .u64 lo, .int .u64 hi, .bool neg, .int .i64 calls, .int .u64 (md lo hi), .int .u64 first, .bool done, .int .u64 x, .int .i64 e]) (by simp [results, Try.results52, go_sem]) rfl ⟨ret_val H.out.1 H.out.2.1 H.out.2.2.1 H.out.2.2.2, ((Below.refl _ _).alloc (Nat.le_refl _) _).alloc (by simp) _⟩
  · have H := Hd.mk (h_stop (ask := ask) (done := done) (x := x) (e := e) hs)
    have h : (rk (md lo hi) == rk lo) = true := hs
    clear hs
    go_enter Try.func52, Try.ntmps52
    go_wp2_with fail
    refine (rMid_any lo hi hlo hhi HN.out HM.out _).mono ?_; rintro en w' ⟨rfl, rfl⟩
    rw [show atk ((rk lo + rk hi) / 2) = md lo hi from rfl]
    go_wp2_with fail
    refine (rRank_any (md lo hi) (md_rk HN.out HM.out).2.1 (md_rk HN.out HM.out).2.2 _).mono ?_; rintro en w' ⟨rfl, rfl⟩
    go_wp2_with fail
    refine (rRank_any lo hlo HN.out _).mono ?_; rintro en w' ⟨rfl, rfl⟩
    go_wp2_with fail
    refine (ended_any lo hi neg calls ask first done x e lo 0 _).mono ?_; rintro en w1 ⟨rfl, hb⟩
    have B : Below w.heap.size w w1 := by
      refine Below.trans ?_ (hb.mono (by simp; omega))
      repeat (first | exact Below.refl _ _ | refine below_drewN ?_ _ | refine Below.setCell ?_ (by simp) _ | refine Below.alloc ?_ (by first | (simp; done) | (simp; omega)) _)
    have hk := cellb hb w.heap.size (by simp; omega)
    have hk2 := cellb hb (w.heap.size + 1) (by simp)
    have hz := hb.size
    clear hb
    simp at hz
    go_wp2_with fail
    exact bodyPost_ret (v := .agg #[.int .u64 lo, .int .u64 hi, .bool neg, .int .i64 calls, .int .u64 ask, .int .u64 first, .bool true, .int .u64 lo, .int .i64 0]) (by simp [results, Try.results52, go_sem, hk2]) rfl ⟨ret_val H.out.1 H.out.2.1 H.out.2.2.1 H.out.2.2.2, by (repeat (refine Below.setCell ?_ (by simp) _)); exact B⟩

set_option maxHeartbeats 1600000 in
theorem told_nan (lo hi : Nat) (neg : Bool) (calls : Int) (ask first : Nat) (done : Bool) (x : Nat) (e : Int) (v : Nat) (hv : F64 v) (h0 : 0 ≤ calls) (h9 : calls ≤ 1000) (hn : nn v = true) (w : World) :
    Calls Try.prog 25 #[.agg #[.int .u64 lo, .int .u64 hi, .bool neg, .int .i64 calls, .int .u64 ask, .int .u64 first, .bool done, .int .u64 x, .int .i64 e], .int .u64 v] w fun en w' =>
      en = .returned (.agg #[.int .u64 lo, .int .u64 hi, .bool neg, .int .i64 (calls + 1), .int .u64 ask, .int .u64 first, .bool true, .int .u64 0, .int .i64 91]) ∧ Below w.heap.size w w' := by
  go_enter Try.func25, Try.ntmps25
  go_wp2_with fail
  refine (rIsNaN_any _ hv _).mono ?_; rintro en w' ⟨rfl, rfl⟩
  go_wp2_with fail
  refine (ended_any lo hi neg _ ask first done x e 0 91 _).mono ?_; rintro en w1 ⟨rfl, hb⟩
  have B : Below w.heap.size w w1 := by
    refine Below.trans ?_ (hb.mono (by simp; omega))
    repeat (first | exact Below.refl _ _ | refine below_drewN ?_ _ | refine Below.setCell ?_ (by simp) _ | refine Below.alloc ?_ (by first | (simp; done) | (simp; omega)) _)
  have hk := cellb hb w.heap.size (by simp; omega)
  have hk2 := cellb hb (w.heap.size + 1) (by simp)
  have hz := hb.size
  clear hb
  simp at hz
  go_wp2_with fail
  exact bodyPost_ret (v := .agg #[.int .u64 lo, .int .u64 hi, .bool neg, .int .i64 (calls + 1), .int .u64 ask, .int .u64 first, .bool true, .int .u64 0, .int .i64 91]) (by simp [results, Try.results25, go_sem, hk2]) rfl ⟨rfl, by (repeat (refine Below.setCell ?_ (by simp) _)); exact B⟩

set_option maxHeartbeats 1600000 in
theorem told_1 (lo hi : Nat) (neg : Bool) (calls : Int) (ask first : Nat) (done : Bool) (x : Nat) (e : Int) (v : Nat) (hv : F64 v) (h : calls = 0) (hn : nn v = false) (w : World) :
    Calls Try.prog 25 #[.agg #[.int .u64 lo, .int .u64 hi, .bool neg, .int .i64 calls, .int .u64 ask, .int .u64 first, .bool done, .int .u64 x, .int .i64 e], .int .u64 v] w fun en w' =>
      en = .returned (.agg #[.int .u64 lo, .int .u64 hi, .bool neg, .int .i64 1, .int .u64 hi, .int .u64 v, .bool done, .int .u64 x, .int .i64 e]) ∧ Below w.heap.size w w' := by
  subst h
  go_enter Try.func25, Try.ntmps25
  go_wp2_with fail
  refine (rIsNaN_any _ hv _).mono ?_; rintro en w' ⟨rfl, rfl⟩
  go_wp2_with fail
  exact bodyPost_ret (v := .agg #[.int .u64 lo, .int .u64 hi, .bool neg, .int .i64 1, .int .u64 hi, .int .u64 v, .bool done, .int .u64 x, .int .i64 e]) (by simp [results, Try.results25, go_sem]) rfl ⟨rfl, ((Below.refl _ _).alloc (Nat.le_refl _) _).alloc (by simp) _⟩

set_option maxHeartbeats 1600000 in
theorem told_2a (lo hi : Nat) (neg : Bool) (calls : Int) (ask first : Nat) (done : Bool) (x : Nat) (e : Int) (v : Nat) (hv : F64 v) (h : calls = 1) (hn : nn v = false) (hf : F64 first) (z : mg first = 0) (w : World) :
    Calls Try.prog 25 #[.agg #[.int .u64 lo, .int .u64 hi, .bool neg, .int .i64 calls, .int .u64 ask, .int .u64 first, .bool done, .int .u64 x, .int .i64 e], .int .u64 v] w fun en w' =>
      en = .returned (.agg #[.int .u64 lo, .int .u64 hi, .bool neg, .int .i64 2, .int .u64 ask, .int .u64 first, .bool true, .int .u64 lo, .int .i64 0]) ∧ Below w.heap.size w w' := by
  subst h
  have z_first : ((mg first : Int) == 0) = true := by rw [beq_iff_eq]; omega
  clear z
  go_enter Try.func25, Try.ntmps25
  go_wp2_with fail
  refine (rIsNaN_any _ hv _).mono ?_; rintro en w' ⟨rfl, rfl⟩
  go_wp2_with fail
  refine (rSize_any _ hf _).mono ?_; rintro en w' ⟨rfl, rfl⟩
  go_wp2_with fail
  refine (ended_any lo hi neg _ ask first done x e lo 0 _).mono ?_; rintro en w1 ⟨rfl, hb⟩
  have B : Below w.heap.size w w1 := by
    refine Below.trans ?_ (hb.mono (by simp; omega))
    repeat (first | exact Below.refl _ _ | refine below_drewN ?_ _ | refine Below.setCell ?_ (by simp) _ | refine Below.alloc ?_ (by first | (simp; done) | (simp; omega)) _)
  have hk := cellb hb w.heap.size (by simp; omega)
  have hk2 := cellb hb (w.heap.size + 1) (by simp)
  have hz := hb.size
  clear hb
  simp at hz
  go_wp2_with fail
  exact bodyPost_ret (v := .agg #[.int .u64 lo, .int .u64 hi, .bool neg, .int .i64 2, .int .u64 ask, .int .u64 first, .bool true, .int .u64 lo, .int .i64 0]) (by simp [results, Try.results25, go_sem, hk2]) rfl ⟨rfl, by (repeat (refine Below.setCell ?_ (by simp) _)); exact B⟩

set_option maxHeartbeats 1600000 in
theorem told_2b (lo hi : Nat) (neg : Bool) (calls : Int) (ask first : Nat) (done : Bool) (x : Nat) (e : Int) (v : Nat) (hv : F64 v) (h : calls = 1) (hn : nn v = false) (hf : F64 first) (z : mg first ≠ 0) (y : mg v = 0) (w : World) :
    Calls Try.prog 25 #[.agg #[.int .u64 lo, .int .u64 hi, .bool neg, .int .i64 calls, .int .u64 ask, .int .u64 first, .bool done, .int .u64 x, .int .i64 e], .int .u64 v] w fun en w' =>
      en = .returned (.agg #[.int .u64 lo, .int .u64 hi, .bool neg, .int .i64 2, .int .u64 ask, .int .u64 first, .bool true, .int .u64 hi, .int .i64 0]) ∧ Below w.heap.size w w' := by
  subst h
  have z_first : ((mg first : Int) == 0) = false := by rw [beq_eq_false_iff_ne]; omega
  have z_v : ((mg v : Int) == 0) = true := by rw [beq_iff_eq]; omega
  clear z y
  go_enter Try.func25, Try.ntmps25
  go_wp2_with fail
  refine (rIsNaN_any _ hv _).mono ?_; rintro en w' ⟨rfl, rfl⟩
  go_wp2_with fail
  refine (rSize_any _ hf _).mono ?_; rintro en w' ⟨rfl, rfl⟩
  go_wp2_with fail
  refine (rSize_any _ hv _).mono ?_; rintro en w' ⟨rfl, rfl⟩
  go_wp2_with fail
  refine (ended_any lo hi neg _ ask first done x e hi 0 _).mono ?_; rintro en w1 ⟨rfl, hb⟩
  have B : Below w.heap.size w w1 := by
    refine Below.trans ?_ (hb.mono (by simp; omega))
    repeat (first | exact Below.refl _ _ | refine below_drewN ?_ _ | refine Below.setCell ?_ (by simp) _ | refine Below.alloc ?_ (by first | (simp; done) | (simp; omega)) _)
  have hk := cellb hb w.heap.size (by simp; omega)
  have hk2 := cellb hb (w.heap.size + 1) (by simp)
  have hz := hb.size
  clear hb
  simp at hz
  go_wp2_with fail
  exact bodyPost_ret (v := .agg #[.int .u64 lo, .int .u64 hi, .bool neg, .int .i64 2, .int .u64 ask, .int .u64 first, .bool true, .int .u64 hi, .int .i64 0]) (by simp [results, Try.results25, go_sem, hk2]) rfl ⟨rfl, by (repeat (refine Below.setCell ?_ (by simp) _)); exact B⟩

set_option maxHeartbeats 1600000 in
theorem told_2c (lo hi : Nat) (neg : Bool) (calls : Int) (ask first : Nat) (done : Bool) (x : Nat) (e : Int) (v : Nat) (hv : F64 v) (h : calls = 1) (hn : nn v = false) (hf : F64 first) (z : mg first ≠ 0) (y : mg v ≠ 0) (g : ng v = ng first) (w : World) :
    Calls Try.prog 25 #[.agg #[.int .u64 lo, .int .u64 hi, .bool neg, .int .i64 calls, .int .u64 ask, .int .u64 first, .bool done, .int .u64 x, .int .i64 e], .int .u64 v] w fun en w' =>
      en = .returned (.agg #[.int .u64 lo, .int .u64 hi, .bool (ng first), .int .i64 2, .int .u64 ask, .int .u64 first, .bool true, .int .u64 0, .int .i64 120]) ∧ Below w.heap.size w w' := by
  subst h
  have z_first : ((mg first : Int) == 0) = false := by rw [beq_eq_false_iff_ne]; omega
  have z_v : ((mg v : Int) == 0) = false := by rw [beq_eq_false_iff_ne]; omega
  have g2 : (ng v == ng first) = true := by simp [g]
  clear z y g
  go_enter Try.func25, Try.ntmps25
  go_wp2_with fail
  refine (rIsNaN_any _ hv _).mono ?_; rintro en w' ⟨rfl, rfl⟩
  go_wp2_with fail
  refine (rSize_any _ hf _).mono ?_; rintro en w' ⟨rfl, rfl⟩
  go_wp2_with fail
  refine (rSize_any _ hv _).mono ?_; rintro en w' ⟨rfl, rfl⟩
  go_wp2_with fail
  refine (rNegative_any _ _).mono ?_; rintro en w' ⟨rfl, rfl⟩
  go_wp2_with fail
  go_quiet ((go_at_call 51; exact Calls.quiet_of_same ((rNegative_any _ _).mono fun _ _ h => ⟨h.1, h.2.symm⟩)))
  go_wp2_with fail
  refine (ended_any lo hi (ng first) _ ask first done x e 0 120 _).mono ?_; rintro en w1 ⟨rfl, hb⟩
  have B : Below w.heap.size w w1 := by
    refine Below.trans ?_ (hb.mono (by simp; omega))
    repeat (first | exact Below.refl _ _ | refine below_drewN ?_ _ | refine Below.setCell ?_ (by simp) _ | refine Below.alloc ?_ (by first | (simp; done) | (simp; omega)) _)
  have hk := cellb hb w.heap.size (by simp; omega)
  have hk2 := cellb hb (w.heap.size + 1) (by simp)
  have hz := hb.size
  clear hb
  simp at hz
  go_wp2_with fail
  exact bodyPost_ret (v := .agg #[.int .u64 lo, .int .u64 hi, .bool (ng first), .int .i64 2, .int .u64 ask, .int .u64 first, .bool true, .int .u64 0, .int .i64 120]) (by simp [results, Try.results25, go_sem, hk2]) rfl ⟨rfl, by (repeat (refine Below.setCell ?_ (by simp) _)); exact B⟩

set_option maxHeartbeats 1600000 in
theorem told_2d (lo hi : Nat) (neg : Bool) (calls : Int) (ask first : Nat) (done : Bool) (x : Nat) (e : Int) (v : Nat) (hv : F64 v) (h : calls = 1) (hn : nn v = false) (hf : F64 first) (z : mg first ≠ 0) (y : mg v ≠ 0) (g : ¬ ng v = ng first) (hlo : F64 lo) (hhi : F64 hi) (hx0 : nn lo = false) (hy0 : nn hi = false) (w : World) :
    Calls Try.prog 25 #[.agg #[.int .u64 lo, .int .u64 hi, .bool neg, .int .i64 calls, .int .u64 ask, .int .u64 first, .bool done, .int .u64 x, .int .i64 e], .int .u64 v] w fun en w' =>
      en = .returned (.agg #[.int .u64 lo, .int .u64 hi, .bool (ng first), .int .i64 2, .int .u64 (hAsk lo hi ask), .int .u64 first, .bool (hDone lo hi done), .int .u64 (hX lo hi x), .int .i64 (hE lo hi e)]) ∧ Below w.heap.size w w' := by
  subst h
  have z_first : ((mg first : Int) == 0) = false := by rw [beq_eq_false_iff_ne]; omega
  have z_v : ((mg v : Int) == 0) = false := by rw [beq_eq_false_iff_ne]; omega
  have g2 : (ng v == ng first) = false := by simp [g]
  have HX := Hd.mk hx0
  have HY := Hd.mk hy0
  clear z y g hx0 hy0
  go_enter Try.func25, Try.ntmps25
  go_wp2_with fail
  refine (rIsNaN_any _ hv _).mono ?_; rintro en w' ⟨rfl, rfl⟩
  go_wp2_with fail
  refine (rSize_any _ hf _).mono ?_; rintro en w' ⟨rfl, rfl⟩
  go_wp2_with fail
  refine (rSize_any _ hv _).mono ?_; rintro en w' ⟨rfl, rfl⟩
  go_wp2_with fail
  refine (rNegative_any _ _).mono ?_; rintro en w' ⟨rfl, rfl⟩
  go_wp2_with fail
  go_quiet ((go_at_call 51; exact Calls.quiet_of_same ((rNegative_any _ _).mono fun _ _ h => ⟨h.1, h.2.symm⟩)))
  go_wp2_with fail
  refine (halved_any lo hi (ng first) _ ask first done x e hlo hhi HX.out HY.out _).mono ?_; rintro en w1 ⟨rfl, hb⟩
  have B : Below w.heap.size w w1 := by
    refine Below.trans ?_ (hb.mono (by simp; omega))
    repeat (first | exact Below.refl _ _ | refine below_drewN ?_ _ | refine Below.setCell ?_ (by simp) _ | refine Below.alloc ?_ (by first | (simp; done) | (simp; omega)) _)
  have hk := cellb hb w.heap.size (by simp; omega)
  have hk2 := cellb hb (w.heap.size + 1) (by simp)
  have hz := hb.size
  clear hb
  simp at hz
  go_wp2_with fail
  exact bodyPost_ret (v := .agg #[.int .u64 lo, .int .u64 hi, .bool (ng first), .int .i64 2, .int .u64 (hAsk lo hi ask), .int .u64 first, .bool (hDone lo hi done), .int .u64 (hX lo hi x), .int .i64 (hE lo hi e)]) (by simp [results, Try.results25, go_sem, hk2]) rfl ⟨rfl, by (repeat (refine Below.setCell ?_ (by simp) _)); exact B⟩

set_option maxHeartbeats 1600000 in
theorem told_3a (lo hi : Nat) (neg : Bool) (calls : Int) (ask first : Nat) (done : Bool) (x : Nat) (e : Int) (v : Nat) (hv : F64 v) (h0 : 2 ≤ calls) (h9 : calls ≤ 1000) (hn : nn v = false) (y : mg v = 0) (w : World) :
    Calls Try.prog 25 #[.agg #[.int .u64 lo, .int .u64 hi, .bool neg, .int .i64 calls, .int .u64 ask, .int .u64 first, .bool done, .int .u64 x, .int .i64 e], .int .u64 v] w fun en w' =>
      en = .returned (.agg #[.int .u64 lo, .int .u64 hi, .bool neg, .int .i64 (calls + 1), .int .u64 ask, .int .u64 first, .bool true, .int .u64 ask, .int .i64 0]) ∧ Below w.heap.size w w' := by
  have c1 : (calls + 1 == 1) = false := by rw [beq_eq_false_iff_ne]; omega
  have c2 : (calls + 1 == 2) = false := by rw [beq_eq_false_iff_ne]; omega
  have z_v : ((mg v : Int) == 0) = true := by rw [beq_iff_eq]; omega
  clear y
  go_enter Try.func25, Try.ntmps25
  go_wp2_with fail
  refine (rIsNaN_any _ hv _).mono ?_; rintro en w' ⟨rfl, rfl⟩
  go_wp2_with fail
  refine (rSize_any _ hv _).mono ?_; rintro en w' ⟨rfl, rfl⟩
  go_wp2_with fail
  refine (ended_any lo hi neg _ ask first done x e ask 0 _).mono ?_; rintro en w1 ⟨rfl, hb⟩
  have B : Below w.heap.size w w1 := by
    refine Below.trans ?_ (hb.mono (by simp; omega))
    repeat (first | exact Below.refl _ _ | refine below_drewN ?_ _ | refine Below.setCell ?_ (by simp) _ | refine Below.alloc ?_ (by first | (simp; done) | (simp; omega)) _)
  have hk := cellb hb w.heap.size (by simp; omega)
  have hk2 := cellb hb (w.heap.size + 1) (by simp)
  have hz := hb.size
  clear hb
  simp at hz
  go_wp2_with fail
  exact bodyPost_ret (v := .agg #[.int .u64 lo, .int .u64 hi, .bool neg, .int .i64 (calls + 1), .int .u64 ask, .int .u64 first, .bool true, .int .u64 ask, .int .i64 0]) (by simp [results, Try.results25, go_sem, hk2]) rfl ⟨rfl, by (repeat (refine Below.setCell ?_ (by simp) _)); exact B⟩

set_option maxHeartbeats 1600000 in
theorem told_3b (lo hi : Nat) (neg : Bool) (calls : Int) (ask first : Nat) (done : Bool) (x : Nat) (e : Int) (v : Nat) (hv : F64 v) (h0 : 2 ≤ calls) (h9 : calls ≤ 1000) (hn : nn v = false) (y : mg v ≠ 0) (g : ng v = neg) (hlo : F64 ask) (hhi : F64 hi) (hx0 : nn ask = false) (hy0 : nn hi = false) (w : World) :
    Calls Try.prog 25 #[.agg #[.int .u64 lo, .int .u64 hi, .bool neg, .int .i64 calls, .int .u64 ask, .int .u64 first, .bool done, .int .u64 x, .int .i64 e], .int .u64 v] w fun en w' =>
      en = .returned (.agg #[.int .u64 ask, .int .u64 hi, .bool neg, .int .i64 (calls + 1), .int .u64 (hAsk ask hi ask), .int .u64 first, .bool (hDone ask hi done), .int .u64 (hX ask hi x), .int .i64 (hE ask hi e)]) ∧ Below w.heap.size w w' := by
  have c1 : (calls + 1 == 1) = false := by rw [beq_eq_false_iff_ne]; omega
  have c2 : (calls + 1 == 2) = false := by rw [beq_eq_false_iff_ne]; omega
  have z_v : ((mg v : Int) == 0) = false := by rw [beq_eq_false_iff_ne]; omega
  have g2 : (ng v == neg) = true := by simp [g]
  have HX := Hd.mk hx0
  have HY := Hd.mk hy0
  clear y g hx0 hy0
  go_enter Try.func25, Try.ntmps25
  go_wp2_with fail
  refine (rIsNaN_any _ hv _).mono ?_; rintro en w' ⟨rfl, rfl⟩
  go_wp2_with fail
  refine (rSize_any _ hv _).mono ?_; rintro en w' ⟨rfl, rfl⟩
  go_wp2_with fail
  go_quiet ((go_at_call 51; exact Calls.quiet_of_same ((rNegative_any _ _).mono fun _ _ h => ⟨h.1, h.2.symm⟩)))
  go_wp2_with fail
  refine (halved_any ask hi neg _ ask first done x e hlo hhi HX.out HY.out _).mono ?_; rintro en w1 ⟨rfl, hb⟩
  have B : Below w.heap.size w w1 := by
    refine Below.trans ?_ (hb.mono (by simp; omega))
    repeat (first | exact Below.refl _ _ | refine below_drewN ?_ _ | refine Below.setCell ?_ (by simp) _ | refine Below.alloc ?_ (by first | (simp; done) | (simp; omega)) _)
  have hk := cellb hb w.heap.size (by simp; omega)
  have hk2 := cellb hb (w.heap.size + 1) (by simp)
  have hz := hb.size
  clear hb
  simp at hz
  go_wp2_with fail
  exact bodyPost_ret (v := .agg #[.int .u64 ask, .int .u64 hi, .bool neg, .int .i64 (calls + 1), .int .u64 (hAsk ask hi ask), .int .u64 first, .bool (hDone ask hi done), .int .u64 (hX ask hi x), .int .i64 (hE ask hi e)]) (by simp [results, Try.results25, go_sem, hk2]) rfl ⟨rfl, by (repeat (refine Below.setCell ?_ (by simp) _)); exact B⟩

set_option maxHeartbeats 1600000 in
theorem told_3c (lo hi : Nat) (neg : Bool) (calls : Int) (ask first : Nat) (done : Bool) (x : Nat) (e : Int) (v : Nat) (hv : F64 v) (h0 : 2 ≤ calls) (h9 : calls ≤ 1000) (hn : nn v = false) (y : mg v ≠ 0) (g : ¬ ng v = neg) (hlo : F64 lo) (hhi : F64 ask) (hx0 : nn lo = false) (hy0 : nn ask = false) (w : World) :
    Calls Try.prog 25 #[.agg #[.int .u64 lo, .int .u64 hi, .bool neg, .int .i64 calls, .int .u64 ask, .int .u64 first, .bool done, .int .u64 x, .int .i64 e], .int .u64 v] w fun en w' =>
      en = .returned (.agg #[.int .u64 lo, .int .u64 ask, .bool neg, .int .i64 (calls + 1), .int .u64 (hAsk lo ask ask), .int .u64 first, .bool (hDone lo ask done), .int .u64 (hX lo ask x), .int .i64 (hE lo ask e)]) ∧ Below w.heap.size w w' := by
  have c1 : (calls + 1 == 1) = false := by rw [beq_eq_false_iff_ne]; omega
  have c2 : (calls + 1 == 2) = false := by rw [beq_eq_false_iff_ne]; omega
  have z_v : ((mg v : Int) == 0) = false := by rw [beq_eq_false_iff_ne]; omega
  have g2 : (ng v == neg) = false := by simp [g]
  have HX := Hd.mk hx0
  have HY := Hd.mk hy0
  clear y g hx0 hy0
  go_enter Try.func25, Try.ntmps25
  go_wp2_with fail
  refine (rIsNaN_any _ hv _).mono ?_; rintro en w' ⟨rfl, rfl⟩
  go_wp2_with fail
  refine (rSize_any _ hv _).mono ?_; rintro en w' ⟨rfl, rfl⟩
  go_wp2_with fail
  go_quiet ((go_at_call 51; exact Calls.quiet_of_same ((rNegative_any _ _).mono fun _ _ h => ⟨h.1, h.2.symm⟩)))
  go_wp2_with fail
  refine (halved_any lo ask neg _ ask first done x e hlo hhi HX.out HY.out _).mono ?_; rintro en w1 ⟨rfl, hb⟩
  have B : Below w.heap.size w w1 := by
    refine Below.trans ?_ (hb.mono (by simp; omega))
    repeat (first | exact Below.refl _ _ | refine below_drewN ?_ _ | refine Below.setCell ?_ (by simp) _ | refine Below.alloc ?_ (by first | (simp; done) | (simp; omega)) _)
  have hk := cellb hb w.heap.size (by simp; omega)
  have hk2 := cellb hb (w.heap.size + 1) (by simp)
  have hz := hb.size
  clear hb
  simp at hz
  go_wp2_with fail
  exact bodyPost_ret (v := .agg #[.int .u64 lo, .int .u64 ask, .bool neg, .int .i64 (calls + 1), .int .u64 (hAsk lo ask ask), .int .u64 first, .bool (hDone lo ask done), .int .u64 (hX lo ask x), .int .i64 (hE lo ask e)]) (by simp [results, Try.results25, go_sem, hk2]) rfl ⟨rfl, by (repeat (refine Below.setCell ?_ (by simp) _)); exact B⟩

end Go.Proofs.Ytjhkjekbadbgnaa
