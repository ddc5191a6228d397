/- The walk of the reference's Poly. -/
import Derived.Test.YtjhkjekbadbgnaaPq
import Derived.Test.YtjhkjekbadbgnaaOw
import Derived.Deep.RegionWith
namespace Go.Proofs.Ytjhkjekbadbgnaa
open Go.RowKit
set_option linter.unusedSimpArgs false
set_option linter.unusedVariables false

theorem SR.ask64 {g : Nat → Nat} {lo0 hi0 n lo hi : Nat} {neg : Bool} {calls ask first x : Nat} {e : Int} (h : SR g lo0 hi0 n lo hi neg calls ask first false x e) : F64 ask := by
  cases h with
  | begin _ _ _ _ _ f1 f2 => exact f1
  | second _ _ _ _ f1 f2 _ => exact f2
  | half k lo hi c neg sa first x e f1 f2 n1 n2 => exact (md_rk n1 n2).2.1


set_option maxRecDepth 100000 in
set_option maxHeartbeats 8000000 in
theorem refPoly_any (a : Option Addr) (l : List Nat) (c lo hi : Nat) (W : World) (flo : F64 lo) (fhi : F64 hi) (hl : Us W a l) :
    Calls Try.prog 16 #[.slice a l.length c, .int .u64 lo, .int .u64 hi] W fun en w' =>
      ∃ lo' hi' neg calls ask first x e, en = .returned (sval lo' hi' neg calls ask first true x e) ∧ root (horn l) lo hi = (x, calls, e) ∧ Below W.heap.size W w' := by
  have HL := Hd.mk hl
  have HF : Hd (∀ y, F64 (horn l y)) := ⟨fun y => F64_horn l y hl.wf⟩
  have HH : Hd (∀ w y, F64 y → Us w a l → Calls Try.prog 35 #[.slice a l.length c, .int .u64 y] w (URet (horn l y) w)) := ⟨fun w y hy h => rHorner_any a l c y hy w h⟩
  clear hl
  generalize horn l = g at *
  go_enter Try.func16, Try.ntmps16
  go_wp2_with fail
  refine (begin_any g lo hi flo fhi _).mono ?_
  rintro e w2 ⟨neg, calls, ask, first, done, x, er, rfl, hsr, hb2⟩
  have HSR := Hd.mk hsr
  have hk0 := cellb hb2 W.heap.size (by simp)
  have B2 : Below W.heap.size W w2 := ((Below.refl _ _).alloc (Nat.le_refl _) _).trans (hb2.mono (by simp))
  have hz2 : W.heap.size < w2.heap.size := by have := hb2.size; simp at this; omega
  clear hsr hb2
  go_wp2_with fail
  have hRC : SC (w2.alloc (.cells #[.int .u64 lo, .int .u64 hi, .bool neg, .int .i64 calls, .int .u64 ask, .int .u64 first, .bool done, .int .u64 x, .int .i64 er] 30)) W.heap.size 0 0 false 0 0 0 false 0 0 :=
    ⟨by go_simp, by go_simp, by go_simp, by go_simp, by go_simp, by go_simp, by go_simp, by go_simp, by go_simp, fun o => by go_simp⟩
  have hSC : SC (w2.alloc (.cells #[.int .u64 lo, .int .u64 hi, .bool neg, .int .i64 calls, .int .u64 ask, .int .u64 first, .bool done, .int .u64 x, .int .i64 er] 30)) w2.heap.size lo hi neg calls ask first done x er :=
    ⟨by go_simp, by go_simp, by go_simp, by go_simp, by go_simp, by go_simp, by go_simp, by go_simp, by go_simp, fun o => by go_simp⟩
  have B3 : Below W.heap.size W (w2.alloc (.cells #[.int .u64 lo, .int .u64 hi, .bool neg, .int .i64 calls, .int .u64 ask, .int .u64 first, .bool done, .int .u64 x, .int .i64 er] 30)) := B2.alloc B2.size _
  have hz3 : w2.heap.size < (w2.alloc (.cells #[.int .u64 lo, .int .u64 hi, .bool neg, .int .i64 calls, .int .u64 ask, .int .u64 first, .bool done, .int .u64 x, .int .i64 er] 30)).heap.size := by simp
  clear B2 hk0
  generalize (w2.alloc (.cells #[.int .u64 lo, .int .u64 hi, .bool neg, .int .i64 calls, .int .u64 ask, .int .u64 first, .bool done, .int .u64 x, .int .i64 er] 30)) = w3 at *
  generalize w2.heap.size = b at *
  have HBW := Hd.mk hz2
  clear hz2
  go_loopg [11] 100 (fun kq _ w' => ∃ (lo' hi' : Nat) (neg : Bool) (calls ask first : Nat) (done : Bool) (x : Nat) (er : Int), Hd (SR g lo hi kq lo' hi' neg calls ask first done x er) ∧ Hd (SC w' b lo' hi' neg calls ask first done x er) ∧
    Hd (SC w' W.heap.size 0 0 false 0 0 0 false 0 0) ∧ Hd (Below W.heap.size W w') ∧ b < w'.heap.size)
  case atStart => exact ⟨lo, hi, neg, calls, ask, first, done, x, er, HSR, ⟨hSC⟩, ⟨hRC⟩, ⟨B3⟩, hz3⟩
  case round =>
    clear HSR hSC hRC B3 hz3
    obtain ⟨lo', hi', neg, calls, ask, first, done, x, er, HS, HC, HRC, HB, hbz⟩ := hrel
    have c0 := HC.out.c0
    have c1 := HC.out.c1
    have c2 := HC.out.c2
    have c3 := HC.out.c3
    have c4 := HC.out.c4
    have c5 := HC.out.c5
    have c6 := HC.out.c6
    have c7 := HC.out.c7
    have c8 := HC.out.c8
    have fr := HC.out.fr
    cases done
    · have HA := Hd.mk (SR.ask64 HS.out)
      have HUd : Hd (Us wr.drew a l) := ⟨HL.out.below HB.out.drew⟩
      go_wp2_with fail
      go_region_with (first | (go_at_call 35; refine (HH.out wr.drew ask HA.out HUd.out).mono ?_; rintro en w4 ⟨rfl, hb⟩; have hk := cellb hb b (by show b < wr.heap.size; exact hbz); have hq := cellb hb W.heap.size (by have := HBW.out; show W.heap.size < wr.heap.size; omega); have B4 := Hd.mk (HB.out.drew.trans (hb.mono HB.out.drew.size)); have HZ4 := Hd.mk (Nat.lt_of_lt_of_le hbz hb.size); have d0 := (hk.1 0).trans c0; have d1 := (hk.1 1).trans c1; have d2 := (hk.1 2).trans c2; have d3 := (hk.1 3).trans c3; have d4 := (hk.1 4).trans c4; have d5 := (hk.1 5).trans c5; have d6 := (hk.1 6).trans c6; have d7 := (hk.1 7).trans c7; have d8 := (hk.1 8).trans c8; have df : ∀ o, w4.frozen? ⟨b, o, none⟩ = false := fun o => (hk.2 o).trans (fr o); have RC4 : Hd (SC w4 W.heap.size 0 0 false 0 0 0 false 0 0) := ⟨⟨(hq.1 _).trans HRC.out.c0, (hq.1 _).trans HRC.out.c1, (hq.1 _).trans HRC.out.c2, (hq.1 _).trans HRC.out.c3, (hq.1 _).trans HRC.out.c4, (hq.1 _).trans HRC.out.c5, (hq.1 _).trans HRC.out.c6, (hq.1 _).trans HRC.out.c7, (hq.1 _).trans HRC.out.c8, fun o => (hq.2 o).trans (HRC.out.fr o)⟩⟩; clear hb hk hq) | (go_at_call 25; refine (told_step g lo hi gk lo' hi' neg calls ask first x er HF.out HS.out w4).mono ?_; rintro en w5 ⟨n', lo2, hi2, neg2, calls2, ask2, first2, done2, x2, e2, hlt, rfl, hsr, hb⟩; have HS2 := Hd.mk hsr; have HLt := Hd.mk hlt; have hk2 := cellb hb b HZ4.out; have hq2 := cellb hb W.heap.size (by have := HBW.out; have := HZ4.out; omega); have B5 := Hd.mk (B4.out.trans (hb.mono B4.out.size)); have hz5 : b < w5.heap.size := Nat.lt_of_lt_of_le HZ4.out hb.size; (have hne : ¬ b = W.heap.size := by have := HBW.out; omega); (have hne2 : ¬ W.heap.size = b := by have := HBW.out; omega); have k0 := (hk2.1 0).trans d0; have k1 := (hk2.1 1).trans d1; have k2 := (hk2.1 2).trans d2; have k3 := (hk2.1 3).trans d3; have k4 := (hk2.1 4).trans d4; have k5 := (hk2.1 5).trans d5; have k6 := (hk2.1 6).trans d6; have k7 := (hk2.1 7).trans d7; have k8 := (hk2.1 8).trans d8; have kf : ∀ o, w5.frozen? ⟨b, o, none⟩ = false := fun o => (hk2.2 o).trans (df o); have RC5 : Hd (SC w5 W.heap.size 0 0 false 0 0 0 false 0 0) := ⟨⟨(hq2.1 _).trans RC4.out.c0, (hq2.1 _).trans RC4.out.c1, (hq2.1 _).trans RC4.out.c2, (hq2.1 _).trans RC4.out.c3, (hq2.1 _).trans RC4.out.c4, (hq2.1 _).trans RC4.out.c5, (hq2.1 _).trans RC4.out.c6, (hq2.1 _).trans RC4.out.c7, (hq2.1 _).trans RC4.out.c8, fun o => (hq2.2 o).trans (RC4.out.fr o)⟩⟩; clear hsr hlt hb hk2 hq2))
      all_goals go_wp2_with fail
      all_goals go_roundg n'
      all_goals first | exact HLt.out | skip
      all_goals
        have q0 := RC5.out.c0
        have q1 := RC5.out.c1
        have q2 := RC5.out.c2
        have q3 := RC5.out.c3
        have q4 := RC5.out.c4
        have q5 := RC5.out.c5
        have q6 := RC5.out.c6
        have q7 := RC5.out.c7
        have q8 := RC5.out.c8
        have qf := RC5.out.fr
        refine ⟨lo2, hi2, neg2, calls2, ask2, first2, done2, x2, e2, HS2, ⟨⟨by go_simp, by go_simp, by go_simp, by go_simp, by go_simp, by go_simp, by go_simp, by go_simp, by go_simp, fun o => by go_simp⟩⟩, ⟨⟨by go_simp, by go_simp, by go_simp, by go_simp, by go_simp, by go_simp, by go_simp, by go_simp, by go_simp, fun o => by go_simp⟩⟩, ⟨?_⟩, by simp [World.setCell]; exact hz5⟩
        repeat (refine Below.setCell ?_ (by have := HBW.out; show W.heap.size ≤ b; omega) _)
        exact B5.out
    · have hr : root g lo hi = (x, calls, er) := by
        cases HS.out with
        | done _ _ _ _ _ _ _ _ _ r => exact r
      have HR := Hd.mk hr
      clear hr
      have q0 := HRC.out.c0
      have q1 := HRC.out.c1
      have q2 := HRC.out.c2
      have q3 := HRC.out.c3
      have q4 := HRC.out.c4
      have q5 := HRC.out.c5
      have q6 := HRC.out.c6
      have q7 := HRC.out.c7
      have q8 := HRC.out.c8
      have qf := HRC.out.fr
      go_wp2_with fail
      refine bodyPost_ret (v := sval lo' hi' neg calls ask first true x er) (by simp [results, Try.results16, go_sem, q0, q1, q2, q3, q4, q5, q6, q7, q8]) rfl ⟨lo', hi', neg, calls, ask, first, x, er, rfl, HR.out, ?_⟩
      repeat (refine Below.setCell ?_ (by simp) _)
      exact HB.out

end Go.Proofs.Ytjhkjekbadbgnaa
