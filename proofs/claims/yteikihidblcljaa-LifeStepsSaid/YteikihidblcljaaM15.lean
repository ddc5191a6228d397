/- Put together out of several texts: Yk Yj Yl Ym. -/
import Derived.Test.YteikihidblcljaaM14
import Derived.Test.YteikihidblcljaaM13
import Derived.Test.YteikihidblcljaaM10
import Derived.Deep.AppendLies
import Derived.Deep.RegionLaw

/- The walk of fx's New. -/
namespace Go.Proofs.Yteikihidblcljaa
open Go.RowKit
set_option linter.unusedSimpArgs false
set_option linter.unusedVariables false

/-- Pairs as cells. -/
def prV (l : List Pr) : List Value := l.flatMap fun p => [.int .i64 p.a, .int .i64 p.b, .float .f64 p.x]
theorem prV_snoc (l : List Pr) (p : Pr) : prV (l ++ [p]) = prV l ++ [.int .i64 p.a, .int .i64 p.b, .float .f64 p.x] := by
  unfold prV; rw [List.flatMap_append]; rfl
theorem prV_get (l : List Pr) (j : Nat) (h : j < l.length) : (prV l)[j * 3]? = some (.int .i64 (l.getD j pr0).a) ∧ (prV l)[j * 3 + 1]? = some (.int .i64 (l.getD j pr0).b) ∧ (prV l)[j * 3 + 2]? = some (.float .f64 (l.getD j pr0).x) := by
  unfold prV
  induction l generalizing j with
  | nil => simp at h
  | cons s r ih =>
    cases j with
    | zero => exact ⟨rfl, rfl, rfl⟩
    | succ j =>
      have := ih j (by simpa using h)
      rw [show (j + 1) * 3 = j * 3 + 1 + 1 + 1 by omega]
      simp only [List.flatMap_cons, List.cons_append, List.nil_append, List.getElem?_cons_succ, List.getD_cons_succ]
      exact this
theorem rt_rk {x : Nat} (hf : fin x = true) : okRt x = decide (0 < rk x) := by
  unfold okRt rk
  rw [hf, Bool.true_and]
  cases ng x
  · rw [Bool.not_false, Bool.true_and]
    by_cases h : mg x = 0
    · rw [h]; rfl
    · rw [show (mg x == 0) = false by rw [beq_eq_false_iff_ne]; exact h]
      symm
      simp only [Bool.false_eq_true, if_false, Bool.not_false, decide_eq_true_eq]
      omega
  · rw [Bool.not_true, Bool.false_and]
    symm
    simp only [if_true, decide_eq_false_iff_not]
    omega
theorem newT_140 {l : List Pr} {n : Nat} (h : (newT l n).1 = 0) (hb : okCy (l.getD n pr0).a = false ∨ okCy (l.getD n pr0).b = false) : newT l (n + 1) = (140, n) :=
  newT_next l n h _ (by rw [if_pos hb]) (by rcases hb with h | h; exact Or.inl h; exact Or.inr (Or.inl h))
theorem newT_1 {l : List Pr} {n : Nat} (h : (newT l n).1 = 0) (h1 : okCy (l.getD n pr0).a = true) (h2 : okCy (l.getD n pr0).b = true) (h3 : (l.getD n pr0).a = (l.getD n pr0).b) : newT l (n + 1) = (1, n) :=
  newT_next l n h _ (by rw [if_neg (by rw [h1, h2]; simp), if_pos h3]) (Or.inr (Or.inr (Or.inl h3)))
theorem newT_91 {l : List Pr} {n : Nat} (h : (newT l n).1 = 0) (h1 : okCy (l.getD n pr0).a = true) (h2 : okCy (l.getD n pr0).b = true) (h3 : (l.getD n pr0).a ≠ (l.getD n pr0).b) (h4 : okRt (l.getD n pr0).x = false) : newT l (n + 1) = (91, n) :=
  newT_next l n h _ (by rw [if_neg (by rw [h1, h2]; simp), if_neg h3, if_pos h4]) (Or.inr (Or.inr (Or.inr (Or.inl h4))))
theorem newT_230 {l : List Pr} {n : Nat} (h : (newT l n).1 = 0) (h1 : okCy (l.getD n pr0).a = true) (h2 : okCy (l.getD n pr0).b = true) (h3 : (l.getD n pr0).a ≠ (l.getD n pr0).b) (h4 : okRt (l.getD n pr0).x = true) (h5 : Jn (l.take n) (l.getD n pr0).a (l.getD n pr0).b) : newT l (n + 1) = (230, n) :=
  newT_next l n h _ (by rw [if_neg (by rw [h1, h2]; simp), if_neg h3, if_neg (by rw [h4]; simp)]) (Or.inr (Or.inr (Or.inr (Or.inr h5))))
theorem getD_takeP (l : List Pr) (k i : Nat) : (l.take k).getD i pr0 = if i < k then l.getD i pr0 else pr0 := by
  simp only [List.getD_eq_getElem?_getD, List.getElem?_take]
  split <;> simp

theorem ownsRow_below {w w' : World} {base : Nat} {t : TypeId} {size n : Nat} {v : Value} {xs : List Value} (h : w.ownsRow base t size v n xs) (hb : Below w.heap.size w w') : w'.ownsRow base t size v n xs := by
  obtain ⟨h1, h2 | ⟨g, cap, cur, e, h3, h4, h5⟩⟩ := h
  · exact ⟨h1, Or.inl h2⟩
  · exact ⟨h1, Or.inr ⟨g, cap, cur, e, h3, (hb.block g (Array.getElem?_eq_some_iff.1 h4).1).trans h4, h5⟩⟩

end Go.Proofs.Yteikihidblcljaa

/- Flows in memory; the walks of flow's Check and fx's begin. -/
namespace Go.Proofs.Yteikihidblcljaa
open Go.RowKit
set_option linter.unusedSimpArgs false
set_option linter.unusedVariables false

/-- A flow: day, amount, currency. -/
structure Fw where
  d : Int
  x : Nat
  c : Int
def fw0 : Fw := ⟨0, 0, 0⟩
/-- A slice of flows. -/
structure Flws (w : World) (ad : Option Addr) (l : List Fw) : Prop where
  cell : ∀ k, k < l.length → ∃ b o, ad = some ⟨b, o, none⟩ ∧ w.cell? ⟨b, o + k * 3, none⟩ = some (.int .i64 (l.getD k fw0).d) ∧ w.cell? ⟨b, o + k * 3 + 1, none⟩ = some (.float .f64 (l.getD k fw0).x) ∧ w.cell? ⟨b, o + k * 3 + 2, none⟩ = some (.int .i64 (l.getD k fw0).c)
  wf : ∀ k, F64 (l.getD k fw0).x
  rg : ∀ k, (-9223372036854775808 ≤ (l.getD k fw0).d ∧ (l.getD k fw0).d ≤ 9223372036854775807) ∧ (-9223372036854775808 ≤ (l.getD k fw0).c ∧ (l.getD k fw0).c ≤ 9223372036854775807)
  len : l.length ≤ 9223372036854775807
theorem Flws.below {w w' : World} {ad : Option Addr} {l : List Fw} (h : Flws w ad l) (hb : Below w.heap.size w w') : Flws w' ad l :=
  ⟨fun k hk => by
    obtain ⟨b, o, h1, h2, h3, h4⟩ := h.cell k hk
    have hl := World.block_lt_of_cell? _ _ h2
    exact ⟨b, o, h1, (hb.cell (p := ⟨b, o + k * 3, none⟩) hl).trans h2, (hb.cell (p := ⟨b, o + k * 3 + 1, none⟩) hl).trans h3, (hb.cell (p := ⟨b, o + k * 3 + 2, none⟩) hl).trans h4⟩, h.wf, h.rg, h.len⟩

/-- What is wrong with a flow. -/
def badF (f : Fw) : Int := if f.d < 0 ∨ 109572 < f.d then 51 else if fin f.x = false then 91 else if okCy f.c = false then 140 else 0
/-- What is wrong with the first n flows, and where. -/
def chkFn (l : List Fw) : Nat → Int × Nat
  | 0 => (0, 0)
  | n + 1 => if (chkFn l n).1 ≠ 0 then chkFn l n else if badF (l.getD n fw0) ≠ 0 then (badF (l.getD n fw0), n) else (0, 0)
def chkF (l : List Fw) : Int × Nat := if 4096 < l.length then (81, 0) else chkFn l l.length
theorem chkFn_stays (l : List Fw) (n : Nat) (h : (chkFn l n).1 ≠ 0) : ∀ m, n ≤ m → chkFn l m = chkFn l n := by
  intro m hm
  induction m with
  | zero => obtain rfl : n = 0 := by omega
            rfl
  | succ m ih =>
    by_cases e : n = m + 1
    · rw [e]
    · have := ih (by omega)
      rw [chkFn, this, if_pos h]
theorem chkFn_next (l : List Fw) (n : Nat) (h : chkFn l n = (0, 0)) (hb : badF (l.getD n fw0) = 0) : chkFn l (n + 1) = (0, 0) := by
  rw [chkFn, h, if_neg (by decide), if_neg (by omega)]
theorem chkFn_bad (l : List Fw) (n : Nat) (h : chkFn l n = (0, 0)) (hb : badF (l.getD n fw0) ≠ 0) : chkFn l (n + 1) = (badF (l.getD n fw0), n) := by
  rw [chkFn, h, if_neg (by decide), if_pos hb]
theorem chkFn_all (l : List Fw) : ∀ n, (chkFn l n).1 = 0 → ∀ i, i < n → badF (l.getD i fw0) = 0
  | 0, _, i, hi => by omega
  | n + 1, h, i, hi => by
    rw [chkFn] at h
    by_cases h0 : (chkFn l n).1 ≠ 0
    · rw [if_pos h0] at h; exact absurd h h0
    · rw [if_neg h0] at h
      by_cases hb : badF (l.getD n fw0) ≠ 0
      · rw [if_pos hb] at h; exact absurd h hb
      · by_cases e : i = n
        · subst e; omega
        · exact chkFn_all l n (by omega) i (by omega)
theorem badF_ok {f : Fw} (h : badF f = 0) : (0 ≤ f.d ∧ f.d ≤ 109572) ∧ fin f.x = true ∧ okCy f.c = true := by
  unfold badF at h
  split at h
  · omega
  · split at h
    · omega
    · split at h
      · omega
      · refine ⟨by omega, ?_, ?_⟩
        · simp_all
        · simp_all

set_option maxHeartbeats 800000 in
theorem flowNumber_any (x : Nat) (hx : F64 x) (w : World) :
    Calls Try.prog 128 #[.float .f64 x] w fun e w' => e = .returned (.bool (fin x)) ∧ w = w' := by
  have H := Hd.mk (cls_fin x)
  go_enter Try.func128, Try.ntmps128
  go_wp2_with (go_at_call 82; refine (class_any _ hx _).mono ?_; rintro e w' ⟨rfl, rfl⟩)
  go_ret
  exact ⟨ret_bool H.out, rfl⟩
set_option maxHeartbeats 800000 in
theorem flowCurrency_any (n : Int) (w : World) :
    Calls Try.prog 129 #[.int .i64 n] w fun e w' => e = .returned (.bool (okCy n)) ∧ w = w' := by
  have H : Hd (okCy n = decide (1 ≤ n ∧ n ≤ 8)) := ⟨rfl⟩
  by_cases h1 : 1 ≤ n
  · have H1 : Hd (okCy n = decide (n ≤ 8)) := ⟨by rw [H.out]; simp [h1]⟩
    clear H
    have d1 : decide (n ≥ 1) = true := by simpa using h1
    clear h1
    go_enter Try.func129, Try.ntmps129
    go_wp2_with fail
    go_ret
    exact ⟨ret_bool H1.out.symm, rfl⟩
  · have H1 : Hd (false = okCy n) := ⟨by rw [H.out]; simp [h1]⟩
    clear H
    have d1 : decide (n ≥ 1) = false := by simpa using h1
    clear h1
    go_enter Try.func129, Try.ntmps129
    go_wp2_with fail
    go_ret
    exact ⟨ret_bool H1.out, rfl⟩

theorem box_flow (w : World) (d : Int) (x : Nat) (c : Int) : ∃ W, (w.alloc (.cells #[.int .i64 d, .float .f64 x, .int .i64 c] 74)) = W ∧ Below w.heap.size w W ∧ W.cell? ⟨w.heap.size, 0, none⟩ = some (.int .i64 d) ∧ W.cell? ⟨w.heap.size, 1, none⟩ = some (.float .f64 x) ∧ W.cell? ⟨w.heap.size, 2, none⟩ = some (.int .i64 c) ∧ (∀ i, W.frozen? ⟨w.heap.size, i, none⟩ = false) := by
  refine ⟨_, rfl, (Below.refl _ _).alloc (Nat.le_refl _) _, ?_, ?_, ?_, fun i => ?_⟩
  · unfold World.alloc; simp [World.cell?, Array.getElem?_push]
  · unfold World.alloc; simp [World.cell?, Array.getElem?_push]
  · unfold World.alloc; simp [World.cell?, Array.getElem?_push]
  · unfold World.alloc; simp [World.frozen?, Array.getElem?_push]
def ChkRet (v : Int × Nat) (w : World) (e : Ending) (w' : World) : Prop := e = .returned (.tuple #[.int .i64 v.1, .int .i64 (v.2 : Nat)]) ∧ Below w.heap.size w w'

set_option maxHeartbeats 3200000 in
set_option maxRecDepth 100000 in
theorem flowCheck_any (ad : Option Addr) (l : List Fw) (c : Nat) (w : World) (hl : Flws w ad l) :
    Calls Try.prog 90 #[.slice ad l.length c] w (ChkRet (chkF l) w) := by
  have HF := Hd.mk hl
  have hlen := hl.len
  have HN : Hd (chkF l = if 4096 < l.length then (81, 0) else chkFn l l.length) := ⟨rfl⟩
  generalize chkF l = V at *
  obtain ⟨n, hn⟩ : ∃ n, l.length = n := ⟨_, rfl⟩
  rw [hn] at hlen HN ⊢
  have HL := Hd.mk hn
  clear hl hn
  by_cases h1 : 4096 < n
  · have hv := HN.out
    rw [if_pos h1] at hv
    subst hv
    have d1 : decide ((n : Int) > 4096) = true := by simp; omega
    clear h1
    go_enter Try.func90, Try.ntmps90
    go_wp2_with fail
    go_ret2
    exact ⟨rfl, Below.refl _ _⟩
  have HV : Hd (V = chkFn l n) := ⟨by rw [HN.out, if_neg h1]⟩
  have d1 : decide ((n : Int) > 4096) = false := by simp; omega
  clear HN h1
  go_enter Try.func90, Try.ntmps90
  go_wp2_with fail
  go_loopw [11] (fun iv wr => ∃ k : Nat, k ≤ n ∧ iv = .int .i64 k ∧ Hd (chkFn l k = (0, 0)) ∧ Hd (Below w.heap.size w wr)) (fun iv _ => n - (intOf iv).toNat)
  case atStart => exact ⟨0, Nat.zero_le _, rfl, ⟨rfl⟩, ⟨Below.refl _ _⟩⟩
  case round =>
    obtain ⟨k, hk, rfl, HC, HB⟩ := hrel
    by_cases hlt : k < n
    · have hlt' : (k : Int) < n := by omega
      have k0 : (0 : Int) ≤ k := by omega
      obtain ⟨bb, oo, rfl, c1, c2, c3⟩ := (HF.out.below HB.out).cell k (by rw [HL.out]; exact hlt)
      have hF := HF.out.wf k
      have HX := Hd.mk (chkFn_next l k HC.out)
      have HY : Hd (badF (l.getD k fw0) ≠ 0 → V = (badF (l.getD k fw0), k)) := ⟨fun hb => by
        have h2 := chkFn_bad l k HC.out hb
        rw [HV.out, chkFn_stays l (k + 1) (by rw [h2]; exact hb) n (by omega), h2]⟩
      have HBD : Hd (badF (l.getD k fw0) = badF (l.getD k fw0)) := ⟨rfl⟩
      generalize l.getD k fw0 = f at *
      obtain ⟨fd, fx, fc⟩ := f
      dsimp only at c1 c2 c3 hF
      have HNu := Hd.mk (flowNumber_any fx hF)
      have HCu := Hd.mk (flowCurrency_any fc)
      have B1 := Hd.mk (HB.out.trans (((Below.refl wr.heap.size wr).alloc (Nat.le_refl _) (.cells #[.int .i64 fd, .float .f64 fx, .int .i64 fc] 74)).mono HB.out.size))
      clear hlt hF
      by_cases h2 : fd < 0
      · have e1 := decide_eq_true h2
        have hv := HY.out (by unfold badF; rw [if_pos (Or.inl h2)]; decide)
        rw [show badF ⟨fd, fx, fc⟩ = 51 by unfold badF; rw [if_pos (Or.inl h2)]] at hv
        subst hv
        clear h2
        go_wp2_with fail
        go_ret2
        exact ⟨rfl, B1.out⟩
      have e1 := decide_eq_false h2
      by_cases h3 : 109572 < fd
      · have e2 : decide (fd > 109572) = true := decide_eq_true h3
        have hv := HY.out (by unfold badF; rw [if_pos (Or.inr h3)]; decide)
        rw [show badF ⟨fd, fx, fc⟩ = 51 by unfold badF; rw [if_pos (Or.inr h3)]] at hv
        subst hv
        clear h2 h3
        go_wp2_with fail
        go_ret2
        exact ⟨rfl, B1.out⟩
      have e2 : decide (fd > 109572) = false := decide_eq_false h3
      have hor : ¬ (fd < 0 ∨ 109572 < fd) := by omega
      cases hfx : fin fx
      · have hbd : badF ⟨fd, fx, fc⟩ = 91 := by unfold badF; rw [if_neg hor, if_pos hfx]
        have hv := HY.out (by rw [hbd]; decide)
        rw [hbd] at hv
        subst hv
        rw [hfx] at HNu
        clear h2 h3 hbd hor hfx
        go_wp2_with fail
        refine (HNu.out _).mono ?_; rintro e w' ⟨rfl, rfl⟩
        go_wp2_with fail
        go_ret2
        exact ⟨rfl, B1.out⟩
      cases hfc : okCy fc
      · have hbd : badF ⟨fd, fx, fc⟩ = 140 := by unfold badF; rw [if_neg hor, if_neg (by simp [hfx]), if_pos hfc]
        have hv := HY.out (by rw [hbd]; decide)
        rw [hbd] at hv
        subst hv
        rw [hfx] at HNu
        rw [hfc] at HCu
        clear h2 h3 hbd hor hfx hfc
        go_wp2_with fail
        refine (HNu.out _).mono ?_; rintro e w' ⟨rfl, rfl⟩
        go_wp2_with fail
        refine (HCu.out _).mono ?_; rintro e w' ⟨rfl, rfl⟩
        go_wp2_with fail
        go_ret2
        exact ⟨rfl, B1.out⟩
      · have hbd : badF ⟨fd, fx, fc⟩ = 0 := by unfold badF; rw [if_neg hor, if_neg (by simp [hfx]), if_neg (by simp [hfc])]
        have HC2 := Hd.mk (HX.out hbd)
        rw [hfx] at HNu
        rw [hfc] at HCu
        clear h2 h3 hbd hor hfx hfc HY
        go_wp2_with fail
        refine (HNu.out _).mono ?_; rintro e w' ⟨rfl, rfl⟩
        go_wp2_with fail
        refine (HCu.out _).mono ?_; rintro e w' ⟨rfl, rfl⟩
        go_wp2_with fail
        exact ⟨⟨k + 1, by omega, by go_num, HC2, B1⟩, by simp [intOf]; omega⟩
    · have hge : ¬ (k : Int) < n := by omega
      have hv := HV.out
      rw [show n = k by omega, HC.out] at hv
      subst hv
      clear hlt
      go_wp2_with fail
      go_ret2
      exact ⟨rfl, HB.out⟩

/-- What is wrong with flows and a currency. -/
def bgF (l : List Fw) (tc : Int) : Int := if (chkF l).1 ≠ 0 then (chkF l).1 else chkC tc tc
end Go.Proofs.Yteikihidblcljaa

/- The walk of fx's Sum. -/
namespace Go.Proofs.Yteikihidblcljaa
open Go.RowKit
set_option linter.unusedSimpArgs false
set_option linter.unusedVariables false

/-- What is wrong with the first rate that is. -/
noncomputable def feN (L : List Pr) (tc : Int) (l : List Fw) : Nat → Int
  | 0 => 0
  | n + 1 => if feN L tc l n ≠ 0 then feN L tc l n else (crsT L (l.getD n fw0).c tc).2
/-- The exact sum of the products. -/
noncomputable def sumZ (L : List Pr) (tc : Int) (l : List Fw) : Nat → Int
  | 0 => 0
  | n + 1 => sumZ L tc l n + pZ (l.getD n fw0).x (crsT L (l.getD n fw0).c tc).1
/-- What is told of a sum. -/
def toldV (z : Int) : Nat × Int := if fin (overA z false false 1) then (overA z false false 1, 0) else (0, 91)
noncomputable def sumT (L : List Pr) (l : List Fw) (tc : Int) : Nat × Int :=
  if bgF l tc ≠ 0 then (0, bgF l tc) else if feN L tc l l.length ≠ 0 then (0, feN L tc l l.length) else toldV (sumZ L tc l l.length)
theorem feN_stays (L : List Pr) (tc : Int) (l : List Fw) (n : Nat) (h : feN L tc l n ≠ 0) : ∀ m, n ≤ m → feN L tc l m = feN L tc l n := by
  intro m hm
  induction m with
  | zero => obtain rfl : n = 0 := by omega
            rfl
  | succ m ih =>
    by_cases e : n = m + 1
    · rw [e]
    · have := ih (by omega)
      rw [feN, this, if_pos h]
theorem crA_fin {l : List (Pr × Bool)} (h : (crA l).2 = 0) : fin (crA l).1 = true := by
  unfold crA at *
  split at h
  · simp at h
  · next hc => rw [if_neg hc]; simp_all
theorem crsT_fin {L : List Pr} {a b : Int} (h : (crsT L a b).2 = 0) : fin (crsT L a b).1 = true := by
  unfold crsT at *
  split at h
  · simp at h
  · split at h
    · next h1 h2 => rw [if_neg h1, dif_pos h2]; exact crA_fin h
    · simp at h
theorem crsT_F64 (L : List Pr) (a b : Int) : F64 (crsT L a b).1 := by
  unfold crsT
  split
  · exact ⟨by decide⟩
  · split
    · exact crA_F64 _
    · exact ⟨by decide⟩
theorem sumZ_bd (L : List Pr) (tc : Int) (l : List Fw) (hw : ∀ i, F64 (l.getD i fw0).x) : ∀ n, Bd n (sumZ L tc l n)
  | 0 => Bd.zero 0
  | n + 1 => (sumZ_bd L tc l hw n).add (Bd.pZ (hw n) (crsT_F64 _ _ _))
theorem puB_fin {x y : Nat} (h : fin x = true) (h' : fin y = true) : puB x y = false ∧ pdB x y = false := by unfold puB pdB; rw [h, h']; exact ⟨rfl, rfl⟩
theorem nn_mg_le {x : Nat} (h : mg x ≤ 9218868437227405312) : nn x = false := by unfold nn INF; simpa using h
theorem overA_facts (z : Int) : F64 (overA z false false 1) ∧ nn (overA z false false 1) = false := by
  have h : ∃ u, u ≤ 9218868437227405312 ∧ (overA z false false 1 = u ∨ overA z false false 1 = u + 9223372036854775808) := by
    unfold overA nearZ madeN
    simp only [Bool.false_and, Bool.false_eq_true, if_false]
    split
    · exact ⟨_, Nat.min_le_right _ _, Or.inr rfl⟩
    · exact ⟨_, Nat.min_le_right _ _, Or.inl rfl⟩
  obtain ⟨u, hu, h | h⟩ := h <;> rw [h]
  · refine ⟨⟨by omega⟩, nn_mg_le ?_⟩
    rw [mg_small _ (by omega)]; exact hu
  · refine ⟨⟨by omega⟩, nn_mg_le ?_⟩
    rw [mg_val]; omega
theorem chkF_ok {l : List Fw} (h : (chkF l).1 = 0) : l.length ≤ 4096 ∧ ∀ i, i < l.length → badF (l.getD i fw0) = 0 := by
  unfold chkF at h
  split at h
  · simp at h
  · exact ⟨by omega, chkFn_all l _ h⟩
theorem bgF_ok {l : List Fw} {tc : Int} (h : bgF l tc = 0) : (chkF l).1 = 0 ∧ chkC tc tc = 0 := by
  unfold bgF at h
  split at h
  · next hc => exact absurd h hc
  · next hc => exact ⟨by omega, h⟩

end Go.Proofs.Yteikihidblcljaa

/- The walk of tenorlaw23.awake. -/
namespace Go.Proofs.Yteikihidblcljaa
open Go.RowKit
set_option linter.unusedSimpArgs false
set_option linter.unusedVariables false

theorem Wk.closed {L : List Pr} (S : Int → Prop) (h : ∀ p, p ∈ L → ∀ k, S (sr p k) → S (ds p k)) : ∀ {l : List (Pr × Bool)} {f a b : Int}, Wk L f a b l → S a → S b
  | [], _, _, _, w, s => by rw [← show _ = _ from w]; exact s
  | t :: _, _, _, _, w, s => Wk.closed S h w.2.2.2 (h t.1 w.1 t.2 (by rw [w.2.1]; exact s))

def awL : List Pr := [⟨1, 2, 4602678819172646912⟩, ⟨3, 2, 4616189618054758400⟩]
def awF : List Fw := [⟨0, 4616189618054758400, 1⟩, ⟨0, 4607182418800017408, 3⟩]
theorem awL_F64 : ∀ i, F64 (awL.getD i pr0).x := by
  intro i
  match i with
  | 0 => exact ⟨by decide⟩
  | 1 => exact ⟨by decide⟩
  | (i + 2) => exact ⟨by simp [awL, pr0]⟩
theorem awF_F64 : ∀ i, F64 (awF.getD i fw0).x := by
  intro i
  match i with
  | 0 => exact ⟨by decide⟩
  | 1 => exact ⟨by decide⟩
  | (i + 2) => exact ⟨by simp [awF, fw0]⟩
theorem fxAw1 : newT awL 1 = (0, 0) := newT_ok awL 0 rfl (by decide) (by decide) (by decide) (by decide +kernel) (by
  rintro ⟨l, w⟩
  have := Wk.closed (L := List.take 0 awL) (fun x => x = 1) (fun p hp => by simp at hp) w rfl
  exact absurd this (by decide))
theorem fxAw2 : newT awL 2 = (0, 0) := newT_ok awL 1 (by rw [fxAw1]) (by decide) (by decide) (by decide) (by decide +kernel) (by
  rintro ⟨l, w⟩
  have := Wk.closed (L := List.take 1 awL) (fun x => x = 3) (fun p hp k hs => by
    have : p = ⟨1, 2, 4602678819172646912⟩ := by simpa [awL] using hp
    subst this
    cases k
    · exact absurd hs (by decide)
    · exact absurd hs (by decide)) w rfl
  exact absurd this (by decide))
theorem fxAwNew : newA awL = (0, 0) := by unfold newA; rw [if_neg (by decide), show awL.length = 2 from rfl, fxAw2]
theorem fxAwGood : Good awL := by
  have := newT_good awL awL_F64 2 (by decide) (by rw [fxAw2])
  exact this
theorem fxAwC (a b : Int) (l : List (Pr × Bool)) (v : Nat × Int) (hc : chkC a b = 0) (w : Wk awL 0 a b l) (hv : crA l = v) : crsT awL a b = v := by rw [crsT_way fxAwGood.tree.uq hc w, hv]
theorem fxAw13 : crsT awL 1 3 = (4593671619917905920, 0) := fxAwC 1 3 [(⟨1, 2, 4602678819172646912⟩, false), (⟨3, 2, 4616189618054758400⟩, true)] _ (by decide) (by simp [Wk, awL, sr, ds]) (by decide +kernel)
theorem fxAw31 : crsT awL 3 1 = (4620693217682128896, 0) := fxAwC 3 1 [(⟨3, 2, 4616189618054758400⟩, false), (⟨1, 2, 4602678819172646912⟩, true)] _ (by decide) (by simp [Wk, awL, sr, ds]) (by decide +kernel)
theorem fxAw12 : crsT awL 1 2 = (4602678819172646912, 0) := fxAwC 1 2 [(⟨1, 2, 4602678819172646912⟩, false)] _ (by decide) (by simp [Wk, awL, sr, ds]) (by decide +kernel)
theorem fxAw32 : crsT awL 3 2 = (4616189618054758400, 0) := fxAwC 3 2 [(⟨3, 2, 4616189618054758400⟩, false)] _ (by decide) (by simp [Wk, awL, sr, ds]) (by decide +kernel)
theorem fxAw14 : crsT awL 1 4 = (0, 231) := crsT_no (by decide) fun l w => by
  have := Wk.closed (L := awL) (fun x => x ≠ 4) (fun p hp k hs => by
    have : p = ⟨1, 2, 4602678819172646912⟩ ∨ p = ⟨3, 2, 4616189618054758400⟩ := by simpa [awL] using hp
    rcases this with rfl | rfl <;> cases k <;> decide) w (by decide)
  exact this rfl
theorem fxAwS : sumT awL awF 2 = (4618441417868443648, 0) := by
  have h1 : bgF awF 2 = 0 := by decide +kernel
  have h2 : feN awL 2 awF 2 = 0 := by
    have e1 : feN awL 2 awF 1 = 0 := by
      rw [feN, feN, if_neg (by decide), show (awF.getD 0 fw0).c = 1 from rfl, fxAw12]
    rw [feN, e1, if_neg (by decide), show (awF.getD 1 fw0).c = 3 from rfl, fxAw32]
  have h3 : sumZ awL 2 awF 2 = pZ 4616189618054758400 4602678819172646912 + pZ 4607182418800017408 4616189618054758400 := by
    rw [sumZ, sumZ, sumZ, show (awF.getD 0 fw0).c = 1 from rfl, fxAw12, show (awF.getD 1 fw0).c = 3 from rfl, fxAw32, Int.zero_add]
    rfl
  unfold sumT
  rw [h1, if_neg (by decide), show awF.length = 2 from rfl, h2, if_neg (by decide), h3]
  decide +kernel

theorem aw_flws (w : World) : Flws (w.alloc (.cells #[.int .i64 0, .float .f64 4616189618054758400, .int .i64 1, .int .i64 0, .float .f64 4607182418800017408, .int .i64 3] 74)) (some ⟨w.heap.size, 0, none⟩) awF where
  cell := fun k hk => by
    have : k = 0 ∨ k = 1 := by have : awF.length = 2 := rfl; omega
    refine ⟨w.heap.size, 0, rfl, ?_⟩
    rcases this with rfl | rfl
    · refine ⟨?_, ?_, ?_⟩ <;> (unfold World.alloc; simp [World.cell?, Array.getElem?_push, awF])
    · refine ⟨?_, ?_, ?_⟩ <;> (unfold World.alloc; simp [World.cell?, Array.getElem?_push, awF])
  wf := awF_F64
  rg := fun k => by
    match k with
    | 0 => decide
    | 1 => decide
    | (k + 2) => simp [awF, fw0]
  len := by decide

end Go.Proofs.Yteikihidblcljaa
