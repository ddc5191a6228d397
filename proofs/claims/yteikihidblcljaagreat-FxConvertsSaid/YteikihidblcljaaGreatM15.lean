/- Put together out of several texts: Yk Yj Yl Ym. -/
import Derived.Test.YteikihidblcljaaGreatM14
import Derived.Test.YteikihidblcljaaGreatM13
import Derived.Test.YteikihidblcljaaGreatM10
import Derived.Deep.AppendLies
import Derived.Deep.RegionLaw

/- The walk of fx's New. -/
namespace Go.Proofs.YteikihidblcljaaGreat
open Go.RowKit
set_option linter.unusedSimpArgs false
set_option linter.unusedVariables false

/-- Pairs as cells. -/
def prV (l : List Pr) : List Value := l.flatMap fun p => [.int .i64 p.a, .int .i64 p.b, .float .f64 p.x]
theorem prV_snoc (l : List Pr) (p : Pr) : prV (l ++ [p]) = prV l ++ [.int .i64 p.a, .int .i64 p.b, .float .f64 p.x] := by
  unfold prV; rw [List.flatMap_append]; rfl
theorem prV_get (l : List Pr) (j : Nat) (h : j < l.length) : (prV l)[j * 3]? = some (.int .i64 (l.getD j pr0).a) ∧ (prV l)[j * 3 + 1]? = some (.int .i64 (l.getD j pr0).b) ∧ (prV l)[j * 3 + 2]? = some (.float .f64 (l.getD j pr0).x) := by
  unfold prV
  induction l generalizing j with
  | nil => simp at h
  | cons s r ih =>
    cases j with
    | zero => exact ⟨rfl, rfl, rfl⟩
    | succ j =>
      have := ih j (by simpa using h)
      rw [show (j + 1) * 3 = j * 3 + 1 + 1 + 1 by omega]
      simp only [List.flatMap_cons, List.cons_append, List.nil_append, List.getElem?_cons_succ, List.getD_cons_succ]
      exact this
theorem info_pair : (Tryz.prog.info? 95).map (fun i => (i.zero, i.size, i.bytes)) = some (some (.agg #[.int .i64 0, .int .i64 0, .float .f64 0]), 3, 24) := by kernel_rfl
/-- A block with one cell. -/
def TBox (w : World) (b : Nat) (v : Value) : Prop := w.heap[b]? = some (.cells #[v] 150 (0, 0))
theorem TBox.cell {w : World} {b : Nat} {v : Value} (h : TBox w b v) : w.cell? ⟨b, 0, none⟩ = some v := by unfold TBox at h; simp [World.cell?, h]
theorem TBox.frozen {w : World} {b : Nat} {v : Value} (h : TBox w b v) (o : Nat) : w.frozen? ⟨b, o, none⟩ = false := by unfold TBox at h; simp [World.frozen?, h]
theorem TBox.lt {w : World} {b : Nat} {v : Value} (h : TBox w b v) : b < w.heap.size := by unfold TBox at h; exact (Array.getElem?_eq_some_iff.1 h).1
theorem TBox.belowB {B : Nat} {w w' : World} {b : Nat} {v : Value} (h : TBox w b v) (hb : Below B w w') (hB : b < B) : TBox w' b v := (hb.block b hB).trans h
theorem TBox.below {w w' : World} {b : Nat} {v : Value} (h : TBox w b v) (hb : Below w.heap.size w w') : TBox w' b v := h.belowB hb h.lt
theorem TBox.set {w : World} {b : Nat} {v : Value} (h : TBox w b v) (u : Value) : TBox (w.setCell ⟨b, 0, none⟩ u) b u := by
  unfold TBox at *
  unfold World.setCell
  simp only [Array.getElem?_modify, h]
  simp
/-- A table of the call's own. -/
structure OwnTab (w : World) (base b : Nat) (L : List Pr) : Prop where
  ex : ∃ v, TBox w b v ∧ w.ownsRow base 95 3 v L.length (prV L)
  wf : ∀ k, F64 (L.getD k pr0).x
  rg : ∀ k, (-9223372036854775808 ≤ (L.getD k pr0).a ∧ (L.getD k pr0).a ≤ 9223372036854775807) ∧ (-9223372036854775808 ≤ (L.getD k pr0).b ∧ (L.getD k pr0).b ≤ 9223372036854775807)
  len : L.length ≤ 28
theorem OwnTab.tab {w : World} {base b : Nat} {L : List Pr} (h : OwnTab w base b L) : TabIs w b L := by
  obtain ⟨v, h1, h2⟩ := h.ex
  rcases h2.2 with ⟨e, e2⟩ | ⟨g, cap, cur, e, _⟩
  · subst e
    have : L = [] := List.length_eq_zero_iff.1 e2
    subst this
    exact ⟨none, 0, h1.cell, Prs.nil _ _⟩
  · subst e
    refine ⟨some ⟨g, 0, none⟩, cap, h1.cell, ⟨fun k hk => ⟨g, 0, rfl, ?_⟩, h.wf, h.rg, by have := h.len; omega⟩⟩
    obtain ⟨c1, c2, c3⟩ := prV_get L k hk
    have ha : ∀ i, (⟨g, 0, none⟩ : Addr).add i = ⟨g, 0 + i, none⟩ := fun i => by by_cases h0 : i = 0 <;> simp [Addr.add, h0]
    have k1 := h2.cells rfl _ _ c1
    have k2 := h2.cells rfl _ _ c2
    have k3 := h2.cells rfl _ _ c3
    rw [ha] at k1 k2 k3
    exact ⟨k1, k2, k3⟩
/-- It returns a table, or what is wrong. -/
def NewRet (l : List Pr) (w : World) (e : Ending) (w' : World) : Prop :=
  (((newA l).1 = 0 ∧ ∃ b, e = .returned (.tuple #[.pointer (some ⟨b, 0, none⟩), .int .i64 0, .int .i64 0]) ∧ w.heap.size ≤ b ∧ OwnTab w' w.heap.size b l) ∨ ((newA l).1 ≠ 0 ∧ e = .returned (.tuple #[.pointer none, .int .i64 (newA l).1, .int .i64 ((newA l).2 : Nat)]))) ∧ Below w.heap.size w w'
/-- The world behind the append of a pair to the table. -/
theorem new_step {w wd w1 : World} {o : Obj} {tb k g cap : Nat} {v : Value} {xs ys : List Value}
    (hown' : w1.ownsRow (tb + 1) 95 3 (.slice (some ⟨g, 0, none⟩) (k + 1) cap) (k + 1) ys) (hgrow : (wd.alloc o).grownBy w1 v.ownBlock)
    (OD : wd.ownsRow (tb + 1) 95 3 v k xs) (BD : TBox wd tb v) (HBD : Below w.heap.size w wd) (htb : w.heap.size ≤ tb) :
    w1.frozen? ⟨tb, 0, none⟩ = false ∧ w1.cell? ⟨tb, 0, none⟩ = some v ∧
    Hd ((w1.setCell ⟨tb, 0, none⟩ (.slice (some ⟨g, 0, none⟩) (k + 1) cap)).ownsRow (tb + 1) 95 3 (.slice (some ⟨g, 0, none⟩) (k + 1) cap) (k + 1) ys) ∧
    Hd (TBox (w1.setCell ⟨tb, 0, none⟩ (.slice (some ⟨g, 0, none⟩) (k + 1) cap)) tb (.slice (some ⟨g, 0, none⟩) (k + 1) cap)) ∧
    Hd (Below w.heap.size w (w1.setCell ⟨tb, 0, none⟩ (.slice (some ⟨g, 0, none⟩) (k + 1) cap))) := by
  have hlt := BD.lt
  have HG : Below (tb + 1) wd w1 := ((Below.refl _ _).alloc hlt o).grown hgrow (by simp; omega) (fun k hk => (OD.lt k hk).1)
  have G1 := BD.belowB HG (by omega)
  have GB := HBD.trans (HG.mono (by omega))
  exact ⟨G1.frozen _, G1.cell, ⟨ownsRow_setCell_below hown' (a := ⟨tb, 0, none⟩) (by show tb < _; omega) _⟩, ⟨G1.set _⟩, ⟨GB.setCell (p := ⟨tb, 0, none⟩) htb _⟩⟩

theorem rt_rk {x : Nat} (hf : fin x = true) : okRt x = decide (0 < rk x) := by
  unfold okRt rk
  rw [hf, Bool.true_and]
  cases ng x
  · rw [Bool.not_false, Bool.true_and]
    by_cases h : mg x = 0
    · rw [h]; rfl
    · rw [show (mg x == 0) = false by rw [beq_eq_false_iff_ne]; exact h]
      symm
      simp only [Bool.false_eq_true, if_false, Bool.not_false, decide_eq_true_eq]
      omega
  · rw [Bool.not_true, Bool.false_and]
    symm
    simp only [if_true, decide_eq_false_iff_not]
    omega
theorem newT_140 {l : List Pr} {n : Nat} (h : (newT l n).1 = 0) (hb : okCy (l.getD n pr0).a = false ∨ okCy (l.getD n pr0).b = false) : newT l (n + 1) = (140, n) :=
  newT_next l n h _ (by rw [if_pos hb]) (by rcases hb with h | h; exact Or.inl h; exact Or.inr (Or.inl h))
theorem newT_1 {l : List Pr} {n : Nat} (h : (newT l n).1 = 0) (h1 : okCy (l.getD n pr0).a = true) (h2 : okCy (l.getD n pr0).b = true) (h3 : (l.getD n pr0).a = (l.getD n pr0).b) : newT l (n + 1) = (1, n) :=
  newT_next l n h _ (by rw [if_neg (by rw [h1, h2]; simp), if_pos h3]) (Or.inr (Or.inr (Or.inl h3)))
theorem newT_91 {l : List Pr} {n : Nat} (h : (newT l n).1 = 0) (h1 : okCy (l.getD n pr0).a = true) (h2 : okCy (l.getD n pr0).b = true) (h3 : (l.getD n pr0).a ≠ (l.getD n pr0).b) (h4 : okRt (l.getD n pr0).x = false) : newT l (n + 1) = (91, n) :=
  newT_next l n h _ (by rw [if_neg (by rw [h1, h2]; simp), if_neg h3, if_pos h4]) (Or.inr (Or.inr (Or.inr (Or.inl h4))))
theorem newT_230 {l : List Pr} {n : Nat} (h : (newT l n).1 = 0) (h1 : okCy (l.getD n pr0).a = true) (h2 : okCy (l.getD n pr0).b = true) (h3 : (l.getD n pr0).a ≠ (l.getD n pr0).b) (h4 : okRt (l.getD n pr0).x = true) (h5 : Jn (l.take n) (l.getD n pr0).a (l.getD n pr0).b) : newT l (n + 1) = (230, n) :=
  newT_next l n h _ (by rw [if_neg (by rw [h1, h2]; simp), if_neg h3, if_neg (by rw [h4]; simp)]) (Or.inr (Or.inr (Or.inr (Or.inr h5))))
theorem getD_takeP (l : List Pr) (k i : Nat) : (l.take k).getD i pr0 = if i < k then l.getD i pr0 else pr0 := by
  simp only [List.getD_eq_getElem?_getD, List.getElem?_take]
  split <;> simp

theorem ownsRow_below {w w' : World} {base : Nat} {t : TypeId} {size n : Nat} {v : Value} {xs : List Value} (h : w.ownsRow base t size v n xs) (hb : Below w.heap.size w w') : w'.ownsRow base t size v n xs := by
  obtain ⟨h1, h2 | ⟨g, cap, cur, e, h3, h4, h5⟩⟩ := h
  · exact ⟨h1, Or.inl h2⟩
  · exact ⟨h1, Or.inr ⟨g, cap, cur, e, h3, (hb.block g (Array.getElem?_eq_some_iff.1 h4).1).trans h4, h5⟩⟩

set_option maxHeartbeats 6400000 in
set_option maxRecDepth 100000 in
theorem fxNew_any (ad : Option Addr) (l : List Pr) (c : Nat) (w : World) (hl : Prs w ad l) :
    Calls Tryz.prog 35 #[.slice ad l.length c] w (NewRet l w) := by
  have HP := Hd.mk hl
  obtain ⟨n, hn⟩ : ∃ n, l.length = n := ⟨_, rfl⟩
  have HN := Hd.mk hn
  rw [hn]
  have hlen := hl.len
  rw [hn] at hlen
  by_cases h28 : 28 < n
  · have HV : Hd (newA l = (2, 0)) := ⟨by unfold newA; rw [hn, if_pos h28]⟩
    have d1 : decide ((n : Int) > 28) = true := by simp; omega
    clear hl hn h28
    go_enter Tryz.func35, Tryz.ntmps35
    go_wp2_with fail
    exact bodyPost_ret (v := .tuple #[.pointer none, .int .i64 2, .int .i64 0]) (by simp [results, Tryz.results35, go_sem]) rfl ⟨Or.inr ⟨by rw [HV.out]; decide, by rw [HV.out]; rfl⟩, Below.refl _ _⟩
  have HV : Hd (newA l = newT l n) := ⟨by unfold newA; rw [hn, if_neg h28]⟩
  have d1 : decide ((n : Int) > 28) = false := by simp; omega
  have n28 : n ≤ 28 := by omega
  obtain ⟨i0, hi, hz0, hz1, hz2⟩ := info_parts info_pair
  clear hl hn h28
  go_enter Tryz.func35, Tryz.ntmps35
  go_wp2_with fail
  have tb0 : TBox (w.alloc (.cells #[.slice none 0 0] 150)) w.heap.size (.slice none 0 0) := by unfold TBox World.alloc; simp [Array.getElem?_push]
  have T0 := Hd.mk tb0
  have B0 : Hd (Below w.heap.size w (w.alloc (.cells #[.slice none 0 0] 150))) := ⟨(Below.refl _ _).alloc (Nat.le_refl _) _⟩
  clear tb0
  obtain ⟨tb, htb⟩ : ∃ tb, tb = w.heap.size := ⟨_, rfl⟩
  rw [← htb] at T0 ⊢
  have TBB : Hd (w.heap.size ≤ tb) := ⟨by omega⟩
  have HTB := Hd.mk htb
  clear htb
  go_loopw [17] (fun iv wr => ∃ (k : Nat) (a : Option Addr) (cp : Nat), k ≤ n ∧ iv = .int .i64 k ∧ Hd (newT l k = (0, 0)) ∧ Hd (TBox wr tb (.slice a k cp)) ∧ Hd (wr.ownsRow (tb + 1) 95 3 (.slice a k cp) k (prV (l.take k))) ∧ Hd (Below w.heap.size w wr)) (fun iv _ => n - (intOf iv).toNat)
  case atStart => exact ⟨0, none, 0, Nat.zero_le _, rfl, ⟨rfl⟩, T0, ⟨by simpa [prV] using World.ownsRow_nil _ _ _ _⟩, B0⟩
  case round =>
    clear T0 B0
    obtain ⟨k, a, cp, hk, rfl, HC, TB, HO, HB⟩ := hrel
    by_cases hlt : k < n
    · have hlt' : (k : Int) < n := by omega
      have k0 : (0 : Int) ≤ k := by omega
      obtain ⟨bb, oo, rfl, c1, c2, c3⟩ := (HP.out.below HB.out).cell k (by rw [HN.out]; exact hlt)
      have hF := HP.out.wf k
      have hC0 : (newT l k).1 = 0 := by rw [HC.out]
      have HY : Hd (∀ c : Int, c ≠ 0 → newT l (k + 1) = (c, k) → newA l = (c, k)) := ⟨fun c hc h => by
        rw [HV.out, newT_stays l (k + 1) (by rw [h]; exact hc) n (by omega), h]⟩
      have H140 := Hd.mk (newT_140 hC0)
      have H1 := Hd.mk (newT_1 hC0)
      have H91 := Hd.mk (newT_91 hC0)
      have H230 := Hd.mk (newT_230 hC0)
      have HOK := Hd.mk (newT_ok l k hC0)
      have HGd := Hd.mk (newT_good l HP.out.wf k (by rw [HN.out]; omega) hC0)
      have HTk := Hd.mk (take_snocP l k (by rw [HN.out]; omega))
      have HWF : Hd (∀ i, F64 ((l.take k).getD i pr0).x) := ⟨fun i => by rw [getD_takeP]; split; exact HP.out.wf i; exact ⟨by decide⟩⟩
      have HRG : Hd (∀ i, (-9223372036854775808 ≤ ((l.take k).getD i pr0).a ∧ ((l.take k).getD i pr0).a ≤ 9223372036854775807) ∧ (-9223372036854775808 ≤ ((l.take k).getD i pr0).b ∧ ((l.take k).getD i pr0).b ≤ 9223372036854775807)) := ⟨fun i => by rw [getD_takeP]; split; exact HP.out.rg i; simp [pr0]⟩
      have HLk : Hd ((l.take k).length = k) := ⟨by rw [List.length_take, HN.out]; omega⟩
      generalize hpk : l.getD k pr0 = p at *
      obtain ⟨pa, pb, px⟩ := p
      dsimp only at c1 c2 c3 hF
      obtain ⟨W, hW, b1, q0, q1, q2⟩ := box_pair wr pa pb px
      have HWW := Hd.mk hW
      have B1 := Hd.mk (HB.out.trans (b1.mono HB.out.size))
      have T1 := Hd.mk (TB.out.below b1)
      have O1 : Hd (W.ownsRow (tb + 1) 95 3 (.slice a k cp) k (prV (l.take k))) := ⟨by rw [← hW]; exact HO.out.alloc _⟩
      have HKA := Hd.mk (currency_any pa)
      have HKB := Hd.mk (currency_any pb)
      have HNu := Hd.mk (fxNumber_any px hF)
      clear b1 hW hpk hlt
      cases ha : okCy pa
      · have HE := Hd.mk (HY.out 140 (by decide) (H140.out (Or.inl ha)))
        rw [ha] at HKA
        clear ha q0 q1 q2 hF
        go_wp2_with fail
        (try rw [HWW.out])
        refine (HKA.out _).mono ?_; rintro e w' ⟨rfl, rfl⟩
        go_wp2_with fail
        go_ret3
        exact ⟨Or.inr ⟨by rw [HE.out]; simp, by rw [HE.out]; rfl⟩, B1.out⟩
      cases hb : okCy pb
      · have HE := Hd.mk (HY.out 140 (by decide) (H140.out (Or.inr hb)))
        rw [ha] at HKA
        rw [hb] at HKB
        clear ha hb q0 hF
        go_wp2_with fail
        (try rw [HWW.out])
        refine (HKA.out _).mono ?_; rintro e w' ⟨rfl, rfl⟩
        go_wp2_with fail
        refine (HKB.out _).mono ?_; rintro e w' ⟨rfl, rfl⟩
        go_wp2_with fail
        go_ret3
        exact ⟨Or.inr ⟨by rw [HE.out]; simp, by rw [HE.out]; rfl⟩, B1.out⟩
      by_cases hab : pa = pb
      · have HE := Hd.mk (HY.out 1 (by decide) (H1.out ha hb hab))
        rw [ha] at HKA
        rw [hb] at HKB
        have d2 : (pa == pb) = true := by rw [beq_iff_eq]; exact hab
        clear ha hb hF hab
        go_wp2_with fail
        (try rw [HWW.out])
        refine (HKA.out _).mono ?_; rintro e w' ⟨rfl, rfl⟩
        go_wp2_with fail
        refine (HKB.out _).mono ?_; rintro e w' ⟨rfl, rfl⟩
        go_wp2_with fail
        go_ret3
        exact ⟨Or.inr ⟨by rw [HE.out]; simp, by rw [HE.out]; rfl⟩, B1.out⟩
      have d2 : (pa == pb) = false := by rw [beq_eq_false_iff_ne]; exact hab
      cases hf : fin px
      · have HE := Hd.mk (HY.out 91 (by decide) (H91.out ha hb hab (by show okRt px = false; unfold okRt; rw [hf]; rfl)))
        rw [ha] at HKA
        rw [hb] at HKB
        rw [hf] at HNu
        clear ha hb hF hab hf
        go_wp2_with fail
        (try rw [HWW.out])
        refine (HKA.out _).mono ?_; rintro e w' ⟨rfl, rfl⟩
        go_wp2_with fail
        refine (HKB.out _).mono ?_; rintro e w' ⟨rfl, rfl⟩
        go_wp2_with fail
        refine (HNu.out _).mono ?_; rintro e w' ⟨rfl, rfl⟩
        go_wp2_with fail
        go_ret3
        exact ⟨Or.inr ⟨by rw [HE.out]; simp, by rw [HE.out]; rfl⟩, B1.out⟩
      have o1 := fgt0 px hF (nn_fin px hf)
      by_cases hr : okRt px = true
      rotate_left
      · have hr' : okRt px = false := by simpa using hr
        have HE := Hd.mk (HY.out 91 (by decide) (H91.out ha hb hab hr'))
        rw [rt_rk hf] at hr'
        rw [hr'] at o1
        rw [ha] at HKA
        rw [hb] at HKB
        rw [hf] at HNu
        clear ha hb hF hab hf hr hr'
        go_wp2_with fail
        (try rw [HWW.out])
        refine (HKA.out _).mono ?_; rintro e w' ⟨rfl, rfl⟩
        go_wp2_with fail
        refine (HKB.out _).mono ?_; rintro e w' ⟨rfl, rfl⟩
        go_wp2_with fail
        refine (HNu.out _).mono ?_; rintro e w' ⟨rfl, rfl⟩
        go_wp2_with fail
        go_ret3
        exact ⟨Or.inr ⟨by rw [HE.out]; simp, by rw [HE.out]; rfl⟩, B1.out⟩
      have H230' := Hd.mk fun h => HY.out 230 (by decide) (H230.out ha hb hab hr h)
      have HOK' := Hd.mk (HOK.out ha hb hab hr)
      have HTab : Hd (OwnTab W (tb + 1) tb (l.take k)) := ⟨⟨⟨_, T1.out, by rw [HLk.out]; exact O1.out⟩, HWF.out, HRG.out, by rw [HLk.out]; omega⟩⟩
      have HWay := Hd.mk (way_any (l.take k) pa pb tb HGd.out.tree 9 0 pa W (Dep.top HGd.out.tree 0 pa) HTab.out.tab)
      rw [rt_rk hf] at hr
      rw [hr] at o1
      rw [ha] at HKA
      rw [hb] at HKB
      rw [hf] at HNu
      clear ha hb hab hf hr H140 H1 H91 H230 HOK HY
      go_wp2_with fail
      (try rw [HWW.out])
      refine (HKA.out _).mono ?_; rintro e w' ⟨rfl, rfl⟩
      go_wp2_with fail
      refine (HKB.out _).mono ?_; rintro e w' ⟨rfl, rfl⟩
      go_wp2_with fail
      refine (HNu.out _).mono ?_; rintro e w' ⟨rfl, rfl⟩
      go_wp2_with fail
      refine HWay.out.mono ?_; rintro e w1 ⟨⟨l2, v2, hw, rfl, ho⟩ | ⟨hno, rfl⟩, hb⟩
      · have HE := Hd.mk (H230'.out ⟨l2, hw⟩)
        have B2 := Hd.mk (B1.out.trans (hb.mono B1.out.size))
        clear hw ho hb q0 q1 q2
        go_wp2_with fail
        go_ret3
        exact ⟨Or.inr ⟨by rw [HE.out]; simp, by rw [HE.out]; rfl⟩, B2.out⟩
      · have HE := Hd.mk (HOK'.out fun ⟨l2, hw⟩ => hno l2 hw)
        have B2 := Hd.mk (B1.out.trans (hb.mono B1.out.size))
        have T2 := Hd.mk (T1.out.below hb)
        have O2 : Hd (w1.ownsRow (tb + 1) 95 3 (.slice a k cp) k (prV (l.take k))) := ⟨ownsRow_below O1.out hb⟩
        have r0 := cell_trP hb q0
        have r1 := cell_trP hb q1
        have r2 := cell_trP hb q2
        clear hno hb q0 q1 q2
        go_wp2_with fail
        have t0 := T2.out.cell
        have s0 : w1.drew.cell? ⟨tb, 0, none⟩ = some (.slice a k cp) := t0
        have s1 : w1.drew.cell? ⟨wr.heap.size, 0, none⟩ = some (.int .i64 pa) := r0
        have s2 : w1.drew.cell? ⟨wr.heap.size, 1, none⟩ = some (.int .i64 pb) := r1
        have s3 : w1.drew.cell? ⟨wr.heap.size, 2, none⟩ = some (.float .f64 px) := r2
        have OD : Hd (w1.drew.ownsRow (tb + 1) 95 3 (.slice a k cp) k (prV (l.take k))) := ⟨O2.out⟩
        have TD : Hd (TBox w1.drew tb (.slice a k cp)) := ⟨T2.out⟩
        have BD : Hd (Below w.heap.size w w1.drew) := ⟨B2.out.drew⟩
        have a2 : ∀ o, (w1.alloc o).drew.cell? ⟨tb, 0, none⟩ = some (.slice a k cp) := fun o => (T2.out.below ((Below.refl _ _).alloc (Nat.le_refl _) o)).cell
        have hwtb : tb + 1 ≤ w1.heap.size := T2.out.lt
        have HNV : Hd (prV (l.take k) ++ [.int .i64 pa, .int .i64 pb, .float .f64 px] = prV (l.take (k + 1))) := ⟨by rw [HTk.out, prV_snoc]⟩
        go_region_law (
          refine step_append_lies _ rfl (.tmp 68) (.tmp 70) 22 rfl (tb + 1) 95 i0 (.agg #[.int .i64 0, .int .i64 0, .float .f64 0]) 3 24 Tryz.underlying22 hi hz0 hz1 hz2 rfl (by decide) (.slice a k cp) k (prV (l.take k)) rfl (OD.out.alloc _) ⟨w1.heap.size, 0, none⟩ 1 1 [.int .i64 pa, .int .i64 pb, .float .f64 px] (by rfl) rfl (by
            intro j u hj
            match j, hj with
            | 0, hj => simp at hj; subst hj; simp [Addr.add]
            | 1, hj => simp at hj; subst hj; simp [Addr.add]
            | 2, hj => simp at hj; subst hj; simp [Addr.add]) (by intro u hu; simp at hu; rcases hu with rfl | rfl | rfl <;> rfl) (by decide) (by unfold maxLen; omega) (by omega) (by simp; omega) _ rfl ?_
          intro g cap w2 hown' hgrow _ _
          obtain ⟨fz, x2n, HO', N1, NB⟩ := new_step (w := w) (wd := w1.drew) (o := .cells #[.int .i64 pa, .int .i64 pb, .float .f64 px] 95) hown' hgrow OD.out TD.out BD.out TBB.out
          clear hown' hgrow)
        all_goals
          rw [HNV.out] at HO'
          clear OD TD BD a2 t0 s0 s1 s2 s3 r0 r1 r2 HNV
          go_wp2_with fail
          exact ⟨⟨k + 1, some ⟨g, 0, none⟩, cap, by omega, by go_num, HE, N1, HO', NB⟩, by simp [intOf]; omega⟩
    · have hge : ¬ (k : Int) < n := by omega
      obtain rfl : n = k := by omega
      have HE : Hd (newA l = (0, 0)) := ⟨by rw [HV.out, HC.out]⟩
      have HTk : Hd (l.take n = l) := ⟨List.take_of_length_le (by rw [HN.out]; omega)⟩
      rw [HTk.out] at HO
      clear hlt
      go_wp2_with fail
      go_ret3
      exact ⟨Or.inl ⟨by rw [HE.out], tb, rfl, TBB.out, ⟨⟨_, TB.out, by rw [HN.out]; exact HO.out.mono (by have := TBB.out; omega)⟩, HP.out.wf, HP.out.rg, by rw [HN.out]; exact n28⟩⟩, HB.out⟩

end Go.Proofs.YteikihidblcljaaGreat

/- Flows in memory; the walks of flow's Check and fx's begin. -/
namespace Go.Proofs.YteikihidblcljaaGreat
open Go.RowKit
set_option linter.unusedSimpArgs false
set_option linter.unusedVariables false

/-- A flow: day, amount, currency. -/
structure Fw where
  d : Int
  x : Nat
  c : Int
def fw0 : Fw := ⟨0, 0, 0⟩
/-- A slice of flows. -/
structure Flws (w : World) (ad : Option Addr) (l : List Fw) : Prop where
  cell : ∀ k, k < l.length → ∃ b o, ad = some ⟨b, o, none⟩ ∧ w.cell? ⟨b, o + k * 3, none⟩ = some (.int .i64 (l.getD k fw0).d) ∧ w.cell? ⟨b, o + k * 3 + 1, none⟩ = some (.float .f64 (l.getD k fw0).x) ∧ w.cell? ⟨b, o + k * 3 + 2, none⟩ = some (.int .i64 (l.getD k fw0).c)
  wf : ∀ k, F64 (l.getD k fw0).x
  rg : ∀ k, (-9223372036854775808 ≤ (l.getD k fw0).d ∧ (l.getD k fw0).d ≤ 9223372036854775807) ∧ (-9223372036854775808 ≤ (l.getD k fw0).c ∧ (l.getD k fw0).c ≤ 9223372036854775807)
  len : l.length ≤ 9223372036854775807
theorem Flws.below {w w' : World} {ad : Option Addr} {l : List Fw} (h : Flws w ad l) (hb : Below w.heap.size w w') : Flws w' ad l :=
  ⟨fun k hk => by
    obtain ⟨b, o, h1, h2, h3, h4⟩ := h.cell k hk
    have hl := World.block_lt_of_cell? _ _ h2
    exact ⟨b, o, h1, (hb.cell (p := ⟨b, o + k * 3, none⟩) hl).trans h2, (hb.cell (p := ⟨b, o + k * 3 + 1, none⟩) hl).trans h3, (hb.cell (p := ⟨b, o + k * 3 + 2, none⟩) hl).trans h4⟩, h.wf, h.rg, h.len⟩

/-- What is wrong with a flow. -/
def badF (f : Fw) : Int := if f.d < 0 ∨ 109572 < f.d then 51 else if fin f.x = false then 91 else if okCy f.c = false then 140 else 0
/-- What is wrong with the first n flows, and where. -/
def chkFn (l : List Fw) : Nat → Int × Nat
  | 0 => (0, 0)
  | n + 1 => if (chkFn l n).1 ≠ 0 then chkFn l n else if badF (l.getD n fw0) ≠ 0 then (badF (l.getD n fw0), n) else (0, 0)
def chkF (l : List Fw) : Int × Nat := if 4096 < l.length then (81, 0) else chkFn l l.length
theorem chkFn_stays (l : List Fw) (n : Nat) (h : (chkFn l n).1 ≠ 0) : ∀ m, n ≤ m → chkFn l m = chkFn l n := by
  intro m hm
  induction m with
  | zero => obtain rfl : n = 0 := by omega
            rfl
  | succ m ih =>
    by_cases e : n = m + 1
    · rw [e]
    · have := ih (by omega)
      rw [chkFn, this, if_pos h]
theorem chkFn_next (l : List Fw) (n : Nat) (h : chkFn l n = (0, 0)) (hb : badF (l.getD n fw0) = 0) : chkFn l (n + 1) = (0, 0) := by
  rw [chkFn, h, if_neg (by decide), if_neg (by omega)]
theorem chkFn_bad (l : List Fw) (n : Nat) (h : chkFn l n = (0, 0)) (hb : badF (l.getD n fw0) ≠ 0) : chkFn l (n + 1) = (badF (l.getD n fw0), n) := by
  rw [chkFn, h, if_neg (by decide), if_pos hb]
theorem chkFn_all (l : List Fw) : ∀ n, (chkFn l n).1 = 0 → ∀ i, i < n → badF (l.getD i fw0) = 0
  | 0, _, i, hi => by omega
  | n + 1, h, i, hi => by
    rw [chkFn] at h
    by_cases h0 : (chkFn l n).1 ≠ 0
    · rw [if_pos h0] at h; exact absurd h h0
    · rw [if_neg h0] at h
      by_cases hb : badF (l.getD n fw0) ≠ 0
      · rw [if_pos hb] at h; exact absurd h hb
      · by_cases e : i = n
        · subst e; omega
        · exact chkFn_all l n (by omega) i (by omega)
theorem badF_ok {f : Fw} (h : badF f = 0) : (0 ≤ f.d ∧ f.d ≤ 109572) ∧ fin f.x = true ∧ okCy f.c = true := by
  unfold badF at h
  split at h
  · omega
  · split at h
    · omega
    · split at h
      · omega
      · refine ⟨by omega, ?_, ?_⟩
        · simp_all
        · simp_all

set_option maxHeartbeats 800000 in
theorem flowNumber_any (x : Nat) (hx : F64 x) (w : World) :
    Calls Tryz.prog 107 #[.float .f64 x] w fun e w' => e = .returned (.bool (fin x)) ∧ w = w' := by
  have H := Hd.mk (cls_fin x)
  go_enter Tryz.func107, Tryz.ntmps107
  go_wp2_with (go_at_call 87; refine (class_any _ hx _).mono ?_; rintro e w' ⟨rfl, rfl⟩)
  go_ret
  exact ⟨ret_bool H.out, rfl⟩
set_option maxHeartbeats 800000 in
theorem flowCurrency_any (n : Int) (w : World) :
    Calls Tryz.prog 108 #[.int .i64 n] w fun e w' => e = .returned (.bool (okCy n)) ∧ w = w' := by
  have H : Hd (okCy n = decide (1 ≤ n ∧ n ≤ 8)) := ⟨rfl⟩
  by_cases h1 : 1 ≤ n
  · have H1 : Hd (okCy n = decide (n ≤ 8)) := ⟨by rw [H.out]; simp [h1]⟩
    clear H
    have d1 : decide (n ≥ 1) = true := by simpa using h1
    clear h1
    go_enter Tryz.func108, Tryz.ntmps108
    go_wp2_with fail
    go_ret
    exact ⟨ret_bool H1.out.symm, rfl⟩
  · have H1 : Hd (false = okCy n) := ⟨by rw [H.out]; simp [h1]⟩
    clear H
    have d1 : decide (n ≥ 1) = false := by simpa using h1
    clear h1
    go_enter Tryz.func108, Tryz.ntmps108
    go_wp2_with fail
    go_ret
    exact ⟨ret_bool H1.out, rfl⟩

theorem box_flow (w : World) (d : Int) (x : Nat) (c : Int) : ∃ W, (w.alloc (.cells #[.int .i64 d, .float .f64 x, .int .i64 c] 70)) = W ∧ Below w.heap.size w W ∧ W.cell? ⟨w.heap.size, 0, none⟩ = some (.int .i64 d) ∧ W.cell? ⟨w.heap.size, 1, none⟩ = some (.float .f64 x) ∧ W.cell? ⟨w.heap.size, 2, none⟩ = some (.int .i64 c) ∧ (∀ i, W.frozen? ⟨w.heap.size, i, none⟩ = false) := by
  refine ⟨_, rfl, (Below.refl _ _).alloc (Nat.le_refl _) _, ?_, ?_, ?_, fun i => ?_⟩
  · unfold World.alloc; simp [World.cell?, Array.getElem?_push]
  · unfold World.alloc; simp [World.cell?, Array.getElem?_push]
  · unfold World.alloc; simp [World.cell?, Array.getElem?_push]
  · unfold World.alloc; simp [World.frozen?, Array.getElem?_push]
def ChkRet (v : Int × Nat) (w : World) (e : Ending) (w' : World) : Prop := e = .returned (.tuple #[.int .i64 v.1, .int .i64 (v.2 : Nat)]) ∧ Below w.heap.size w w'

set_option maxHeartbeats 3200000 in
set_option maxRecDepth 100000 in
theorem flowCheck_any (ad : Option Addr) (l : List Fw) (c : Nat) (w : World) (hl : Flws w ad l) :
    Calls Tryz.prog 65 #[.slice ad l.length c] w (ChkRet (chkF l) w) := by
  have HF := Hd.mk hl
  have hlen := hl.len
  have HN : Hd (chkF l = if 4096 < l.length then (81, 0) else chkFn l l.length) := ⟨rfl⟩
  generalize chkF l = V at *
  obtain ⟨n, hn⟩ : ∃ n, l.length = n := ⟨_, rfl⟩
  rw [hn] at hlen HN ⊢
  have HL := Hd.mk hn
  clear hl hn
  by_cases h1 : 4096 < n
  · have hv := HN.out
    rw [if_pos h1] at hv
    subst hv
    have d1 : decide ((n : Int) > 4096) = true := by simp; omega
    clear h1
    go_enter Tryz.func65, Tryz.ntmps65
    go_wp2_with fail
    go_ret2
    exact ⟨rfl, Below.refl _ _⟩
  have HV : Hd (V = chkFn l n) := ⟨by rw [HN.out, if_neg h1]⟩
  have d1 : decide ((n : Int) > 4096) = false := by simp; omega
  clear HN h1
  go_enter Tryz.func65, Tryz.ntmps65
  go_wp2_with fail
  go_loopw [11] (fun iv wr => ∃ k : Nat, k ≤ n ∧ iv = .int .i64 k ∧ Hd (chkFn l k = (0, 0)) ∧ Hd (Below w.heap.size w wr)) (fun iv _ => n - (intOf iv).toNat)
  case atStart => exact ⟨0, Nat.zero_le _, rfl, ⟨rfl⟩, ⟨Below.refl _ _⟩⟩
  case round =>
    obtain ⟨k, hk, rfl, HC, HB⟩ := hrel
    by_cases hlt : k < n
    · have hlt' : (k : Int) < n := by omega
      have k0 : (0 : Int) ≤ k := by omega
      obtain ⟨bb, oo, rfl, c1, c2, c3⟩ := (HF.out.below HB.out).cell k (by rw [HL.out]; exact hlt)
      have hF := HF.out.wf k
      have HX := Hd.mk (chkFn_next l k HC.out)
      have HY : Hd (badF (l.getD k fw0) ≠ 0 → V = (badF (l.getD k fw0), k)) := ⟨fun hb => by
        have h2 := chkFn_bad l k HC.out hb
        rw [HV.out, chkFn_stays l (k + 1) (by rw [h2]; exact hb) n (by omega), h2]⟩
      have HBD : Hd (badF (l.getD k fw0) = badF (l.getD k fw0)) := ⟨rfl⟩
      generalize l.getD k fw0 = f at *
      obtain ⟨fd, fx, fc⟩ := f
      dsimp only at c1 c2 c3 hF
      have HNu := Hd.mk (flowNumber_any fx hF)
      have HCu := Hd.mk (flowCurrency_any fc)
      have B1 := Hd.mk (HB.out.trans (((Below.refl wr.heap.size wr).alloc (Nat.le_refl _) (.cells #[.int .i64 fd, .float .f64 fx, .int .i64 fc] 70)).mono HB.out.size))
      clear hlt hF
      by_cases h2 : fd < 0
      · have e1 := decide_eq_true h2
        have hv := HY.out (by unfold badF; rw [if_pos (Or.inl h2)]; decide)
        rw [show badF ⟨fd, fx, fc⟩ = 51 by unfold badF; rw [if_pos (Or.inl h2)]] at hv
        subst hv
        clear h2
        go_wp2_with fail
        go_ret2
        exact ⟨rfl, B1.out⟩
      have e1 := decide_eq_false h2
      by_cases h3 : 109572 < fd
      · have e2 : decide (fd > 109572) = true := decide_eq_true h3
        have hv := HY.out (by unfold badF; rw [if_pos (Or.inr h3)]; decide)
        rw [show badF ⟨fd, fx, fc⟩ = 51 by unfold badF; rw [if_pos (Or.inr h3)]] at hv
        subst hv
        clear h2 h3
        go_wp2_with fail
        go_ret2
        exact ⟨rfl, B1.out⟩
      have e2 : decide (fd > 109572) = false := decide_eq_false h3
      have hor : ¬ (fd < 0 ∨ 109572 < fd) := by omega
      cases hfx : fin fx
      · have hbd : badF ⟨fd, fx, fc⟩ = 91 := by unfold badF; rw [if_neg hor, if_pos hfx]
        have hv := HY.out (by rw [hbd]; decide)
        rw [hbd] at hv
        subst hv
        rw [hfx] at HNu
        clear h2 h3 hbd hor hfx
        go_wp2_with fail
        refine (HNu.out _).mono ?_; rintro e w' ⟨rfl, rfl⟩
        go_wp2_with fail
        go_ret2
        exact ⟨rfl, B1.out⟩
      cases hfc : okCy fc
      · have hbd : badF ⟨fd, fx, fc⟩ = 140 := by unfold badF; rw [if_neg hor, if_neg (by simp [hfx]), if_pos hfc]
        have hv := HY.out (by rw [hbd]; decide)
        rw [hbd] at hv
        subst hv
        rw [hfx] at HNu
        rw [hfc] at HCu
        clear h2 h3 hbd hor hfx hfc
        go_wp2_with fail
        refine (HNu.out _).mono ?_; rintro e w' ⟨rfl, rfl⟩
        go_wp2_with fail
        refine (HCu.out _).mono ?_; rintro e w' ⟨rfl, rfl⟩
        go_wp2_with fail
        go_ret2
        exact ⟨rfl, B1.out⟩
      · have hbd : badF ⟨fd, fx, fc⟩ = 0 := by unfold badF; rw [if_neg hor, if_neg (by simp [hfx]), if_neg (by simp [hfc])]
        have HC2 := Hd.mk (HX.out hbd)
        rw [hfx] at HNu
        rw [hfc] at HCu
        clear h2 h3 hbd hor hfx hfc HY
        go_wp2_with fail
        refine (HNu.out _).mono ?_; rintro e w' ⟨rfl, rfl⟩
        go_wp2_with fail
        refine (HCu.out _).mono ?_; rintro e w' ⟨rfl, rfl⟩
        go_wp2_with fail
        exact ⟨⟨k + 1, by omega, by go_num, HC2, B1⟩, by simp [intOf]; omega⟩
    · have hge : ¬ (k : Int) < n := by omega
      have hv := HV.out
      rw [show n = k by omega, HC.out] at hv
      subst hv
      clear hlt
      go_wp2_with fail
      go_ret2
      exact ⟨rfl, HB.out⟩

/-- What is wrong with flows and a currency. -/
def bgF (l : List Fw) (tc : Int) : Int := if (chkF l).1 ≠ 0 then (chkF l).1 else chkC tc tc
set_option maxHeartbeats 800000 in
theorem fxBegin_any (ad : Option Addr) (l : List Fw) (c : Nat) (tc : Int) (w : World) (hl : Flws w ad l) :
    Calls Tryz.prog 40 #[.slice ad l.length c, .int .i64 tc] w fun e w' => e = .returned (.int .i64 (bgF l tc)) ∧ Below w.heap.size w w' := by
  have HC := Hd.mk (flowCheck_any ad l c w hl)
  have HK := Hd.mk (fxCheck_any tc tc)
  have HV : Hd (bgF l tc = if (chkF l).1 ≠ 0 then (chkF l).1 else chkC tc tc) := ⟨rfl⟩
  generalize bgF l tc = V at *
  generalize l.length = n at *
  generalize chkF l = E at *
  generalize chkC tc tc = F at *
  obtain ⟨e1, e2⟩ := E
  unfold ChkRet at HC
  dsimp only at HC HV
  clear hl
  by_cases h : e1 = 0
  · have hv := HV.out
    rw [if_neg (by omega)] at hv
    subst hv
    subst h
    go_enter Tryz.func40, Tryz.ntmps40
    go_wp2_with fail
    refine HC.out.mono ?_; rintro e w1 ⟨rfl, hb⟩
    have HB := Hd.mk hb
    clear hb
    go_wp2_with fail
    refine (HK.out _).mono ?_; rintro e w' ⟨rfl, rfl⟩
    go_wp2_with fail
    go_ret
    exact ⟨rfl, HB.out⟩
  · have hv := HV.out
    rw [if_pos h] at hv
    subst hv
    have d1 : (V != 0) = true := by rw [bne_iff_ne]; exact h
    clear h
    go_enter Tryz.func40, Tryz.ntmps40
    go_wp2_with fail
    refine HC.out.mono ?_; rintro e w1 ⟨rfl, hb⟩
    have HB := Hd.mk hb
    clear hb
    go_wp2_with fail
    go_ret
    exact ⟨rfl, HB.out⟩

end Go.Proofs.YteikihidblcljaaGreat

/- The walk of fx's Sum. -/
namespace Go.Proofs.YteikihidblcljaaGreat
open Go.RowKit
set_option linter.unusedSimpArgs false
set_option linter.unusedVariables false

/-- What is wrong with the first rate that is. -/
noncomputable def feN (L : List Pr) (tc : Int) (l : List Fw) : Nat → Int
  | 0 => 0
  | n + 1 => if feN L tc l n ≠ 0 then feN L tc l n else (crsT L (l.getD n fw0).c tc).2
/-- The exact sum of the products. -/
noncomputable def sumZ (L : List Pr) (tc : Int) (l : List Fw) : Nat → Int
  | 0 => 0
  | n + 1 => sumZ L tc l n + pZ (l.getD n fw0).x (crsT L (l.getD n fw0).c tc).1
/-- What is told of a sum. -/
def toldV (z : Int) : Nat × Int := if fin (overA z false false 1) then (overA z false false 1, 0) else (0, 91)
noncomputable def sumT (L : List Pr) (l : List Fw) (tc : Int) : Nat × Int :=
  if bgF l tc ≠ 0 then (0, bgF l tc) else if feN L tc l l.length ≠ 0 then (0, feN L tc l l.length) else toldV (sumZ L tc l l.length)
theorem feN_stays (L : List Pr) (tc : Int) (l : List Fw) (n : Nat) (h : feN L tc l n ≠ 0) : ∀ m, n ≤ m → feN L tc l m = feN L tc l n := by
  intro m hm
  induction m with
  | zero => obtain rfl : n = 0 := by omega
            rfl
  | succ m ih =>
    by_cases e : n = m + 1
    · rw [e]
    · have := ih (by omega)
      rw [feN, this, if_pos h]
theorem crA_fin {l : List (Pr × Bool)} (h : (crA l).2 = 0) : fin (crA l).1 = true := by
  unfold crA at *
  split at h
  · simp at h
  · next hc => rw [if_neg hc]; simp_all
theorem crsT_fin {L : List Pr} {a b : Int} (h : (crsT L a b).2 = 0) : fin (crsT L a b).1 = true := by
  unfold crsT at *
  split at h
  · simp at h
  · split at h
    · next h1 h2 => rw [if_neg h1, dif_pos h2]; exact crA_fin h
    · simp at h
theorem crsT_F64 (L : List Pr) (a b : Int) : F64 (crsT L a b).1 := by
  unfold crsT
  split
  · exact ⟨by decide⟩
  · split
    · exact crA_F64 _
    · exact ⟨by decide⟩
theorem sumZ_bd (L : List Pr) (tc : Int) (l : List Fw) (hw : ∀ i, F64 (l.getD i fw0).x) : ∀ n, Bd n (sumZ L tc l n)
  | 0 => Bd.zero 0
  | n + 1 => (sumZ_bd L tc l hw n).add (Bd.pZ (hw n) (crsT_F64 _ _ _))
theorem puB_fin {x y : Nat} (h : fin x = true) (h' : fin y = true) : puB x y = false ∧ pdB x y = false := by unfold puB pdB; rw [h, h']; exact ⟨rfl, rfl⟩
theorem nn_mg_le {x : Nat} (h : mg x ≤ 9218868437227405312) : nn x = false := by unfold nn INF; simpa using h
theorem overA_facts (z : Int) : F64 (overA z false false 1) ∧ nn (overA z false false 1) = false := by
  have h : ∃ u, u ≤ 9218868437227405312 ∧ (overA z false false 1 = u ∨ overA z false false 1 = u + 9223372036854775808) := by
    unfold overA nearZ madeN
    simp only [Bool.false_and, Bool.false_eq_true, if_false]
    split
    · exact ⟨_, Nat.min_le_right _ _, Or.inr rfl⟩
    · exact ⟨_, Nat.min_le_right _ _, Or.inl rfl⟩
  obtain ⟨u, hu, h | h⟩ := h <;> rw [h]
  · refine ⟨⟨by omega⟩, nn_mg_le ?_⟩
    rw [mg_small _ (by omega)]; exact hu
  · refine ⟨⟨by omega⟩, nn_mg_le ?_⟩
    rw [mg_val]; omega
theorem chkF_ok {l : List Fw} (h : (chkF l).1 = 0) : l.length ≤ 4096 ∧ ∀ i, i < l.length → badF (l.getD i fw0) = 0 := by
  unfold chkF at h
  split at h
  · simp at h
  · exact ⟨by omega, chkFn_all l _ h⟩
theorem bgF_ok {l : List Fw} {tc : Int} (h : bgF l tc = 0) : (chkF l).1 = 0 ∧ chkC tc tc = 0 := by
  unfold bgF at h
  split at h
  · next hc => exact absurd h hc
  · next hc => exact ⟨by omega, h⟩

set_option maxHeartbeats 3200000 in
set_option maxRecDepth 100000 in
theorem fxSum_any (L : List Pr) (g : Good L) (tb : Nat) (ad : Option Addr) (l : List Fw) (c : Nat) (tc : Int) (w : World) (ht : TabIs w tb L) (hl : Flws w ad l) :
    Calls Tryz.prog 12 #[.pointer (some ⟨tb, 0, none⟩), .slice ad l.length c, .int .i64 tc] w (CrsRet (sumT L l tc) w) := by
  have HBg := Hd.mk (fxBegin_any ad l c tc w hl)
  have HV : Hd (sumT L l tc = if bgF l tc ≠ 0 then (0, bgF l tc) else if feN L tc l l.length ≠ 0 then (0, feN L tc l l.length) else toldV (sumZ L tc l l.length)) := ⟨rfl⟩
  generalize sumT L l tc = V at *
  have HF := Hd.mk hl
  have HT := Hd.mk ht
  have G := Hd.mk g
  have HOKF := Hd.mk (fun h : bgF l tc = 0 => chkF_ok (bgF_ok h).1)
  have hlen := hl.len
  obtain ⟨n, hn⟩ : ∃ n, l.length = n := ⟨_, rfl⟩
  rw [hn] at hlen HBg HV HOKF ⊢
  have HN := Hd.mk hn
  clear hl ht hn g
  by_cases h0 : bgF l tc = 0
  rotate_left
  · have hv := HV.out
    rw [if_pos h0] at hv
    subst hv
    have d1 : (bgF l tc != 0) = true := by rw [bne_iff_ne]; exact h0
    generalize bgF l tc = E at *
    clear h0 HV
    go_enter Tryz.func12, Tryz.ntmps12
    go_wp2_with fail
    refine HBg.out.mono ?_; rintro e w1 ⟨rfl, hb⟩
    have HB := Hd.mk hb
    clear hb
    go_wp2_with fail
    go_ret2
    exact ⟨rfl, HB.out⟩
  have HOK := Hd.mk (HOKF.out h0)
  have HV2 : Hd (V = if feN L tc l n ≠ 0 then (0, feN L tc l n) else toldV (sumZ L tc l n)) := ⟨by rw [HV.out, if_neg (by omega)]⟩
  rw [h0] at HBg
  clear HV HOKF h0
  go_enter Tryz.func12, Tryz.ntmps12
  go_wp2_with fail
  refine HBg.out.mono ?_; rintro e w1 ⟨rfl, hb⟩
  have HB1 := Hd.mk hb
  clear hb
  go_wp2_with fail
  refine (new_any _).mono ?_; rintro e w2 ⟨ba, rfl, hba, hacc, hb⟩
  have HA0 := Hd.mk hacc
  have HB0 := Hd.mk (HB1.out.trans (hb.mono HB1.out.size))
  have HBA : Hd (w.heap.size ≤ ba) := ⟨by have := HB1.out.size; omega⟩
  clear hacc hb hba HB1
  go_wp2_with fail
  go_loopw [24] (fun iv wr => ∃ k : Nat, k ≤ n ∧ iv = .int .i64 k ∧ Hd (feN L tc l k = 0) ∧ Hd (AccIs wr ba (sumZ L tc l k) false false) ∧ Hd (Below w.heap.size w wr)) (fun iv _ => n - (intOf iv).toNat)
  case atStart => exact ⟨0, Nat.zero_le _, rfl, ⟨rfl⟩, HA0, HB0⟩
  case round =>
    clear HA0 HB0
    obtain ⟨k, hk, rfl, HE, HA, HB⟩ := hrel
    by_cases hlt : k < n
    · have hlt' : (k : Int) < n := by omega
      have k0 : (0 : Int) ≤ k := by omega
      obtain ⟨bb, oo, rfl, c1, c2, c3⟩ := (HF.out.below HB.out).cell k (by rw [HN.out]; exact hlt)
      have hF := HF.out.wf k
      have hok := badF_ok (HOK.out.2 k hlt)
      have HSZ : Hd (sumZ L tc l (k + 1) = sumZ L tc l k + pZ (l.getD k fw0).x (crsT L (l.getD k fw0).c tc).1) := ⟨rfl⟩
      have HFE : Hd (feN L tc l (k + 1) = (crsT L (l.getD k fw0).c tc).2) := ⟨by rw [feN, if_neg (by rw [HE.out]; decide)]⟩
      have HV3 : Hd (feN L tc l (k + 1) ≠ 0 → V = (0, feN L tc l (k + 1))) := ⟨fun h => by
        have h2 := feN_stays L tc l (k + 1) h n (by omega)
        rw [HV2.out, h2, if_pos h]⟩
      generalize hf : l.getD k fw0 = f at *
      obtain ⟨fd, fx, fc⟩ := f
      dsimp only at c1 c2 c3 hF hok HSZ HFE
      have hCF := Hd.mk (crsT_F64 L fc tc)
      have hCn := Hd.mk (crsT_fin (L := L) (a := fc) (b := tc))
      obtain ⟨W, hW, b1, q0, q1, q2, _⟩ := box_flow wr fd fx fc
      have HWW := Hd.mk hW
      have B1 := Hd.mk (HB.out.trans (b1.mono HB.out.size))
      have A1 := Hd.mk (HA.out.below b1)
      have HX := Hd.mk (cross_any L G.out tb fc tc W (HT.out.below B1.out))
      unfold CrsRet at HX
      generalize crsT L fc tc = R at *
      obtain ⟨r1, r2⟩ := R
      dsimp only at HX hCF hCn HSZ HFE
      have hfin := Hd.mk hok.2.1
      clear b1 hW hlt hok hf HB HA
      go_wp2_with fail
      (try rw [HWW.out])
      refine HX.out.mono ?_; rintro e w3 ⟨rfl, hb⟩
      have B2 := Hd.mk (B1.out.trans (hb.mono B1.out.size))
      have A2 := Hd.mk (A1.out.below hb)
      have t1 := cell_trP hb q1
      clear hb q0 q1 q2
      by_cases hr : r2 = 0
      · subst hr
        have hP := accProd_any ba _ _ _ fx r1 w3 A2.out hF hCF.out
        obtain ⟨p1, p2⟩ := puB_fin hfin.out (hCn.out rfl)
        rw [p1, p2, ← HSZ.out] at hP
        have HP := Hd.mk hP
        have hw3 := B2.out.size
        clear hP p1 p2
        go_wp2_with fail
        refine HP.out.mono ?_; rintro e w4 ⟨rfl, ha, ho⟩
        have A3 := Hd.mk ha
        have B3 := Hd.mk (ho.below B2.out HBA.out hw3)
        clear ha ho
        go_wp2_with fail
        exact ⟨⟨k + 1, by omega, by go_num, ⟨HFE.out⟩, A3, B3⟩, by simp [intOf]; omega⟩
      · have hv := HV3.out (by rw [HFE.out]; exact hr)
        rw [HFE.out] at hv
        subst hv
        have d1 : (r2 != 0) = true := by rw [bne_iff_ne]; exact hr
        clear hr
        go_wp2_with fail
        go_ret2
        exact ⟨rfl, B2.out⟩
    · have hge : ¬ (k : Int) < n := by omega
      obtain rfl : n = k := by omega
      have HZ := Hd.mk ((sumZ_bd L tc l HF.out.wf n).accB (Nat.le_trans HOK.out.1 (by decide)))
      have HVl := Hd.mk (value_any ba _ _ _ wr HA.out HZ.out)
      have hv := HV2.out
      rw [HE.out, if_neg (by decide)] at hv
      have hov := Hd.mk (overA_facts (sumZ L tc l n))
      have HTV : Hd (toldV (sumZ L tc l n) = if fin (overA (sumZ L tc l n) false false 1) then (overA (sumZ L tc l n) false false 1, 0) else (0, 91)) := ⟨rfl⟩
      rw [HTV.out] at hv
      clear hlt HTV
      generalize overA (sumZ L tc l n) false false 1 = R at *
      have HNu := Hd.mk (fxNumber_any R hov.out.1)
      cases hf : fin R
      · rw [hf, if_neg (by decide)] at hv
        subst hv
        rw [hf] at HNu
        clear hf
        go_wp2_with fail
        refine HVl.out.mono ?_; rintro e w3 ⟨rfl, hb⟩
        have B2 := Hd.mk (HB.out.trans (hb.mono HB.out.size))
        clear hb
        go_wp2_with fail
        refine (HNu.out _).mono ?_; rintro e w' ⟨rfl, rfl⟩
        go_wp2_with fail
        go_ret2
        exact ⟨rfl, B2.out⟩
      · rw [hf, if_pos rfl] at hv
        subst hv
        rw [hf] at HNu
        clear hf
        go_wp2_with fail
        refine HVl.out.mono ?_; rintro e w3 ⟨rfl, hb⟩
        have B2 := Hd.mk (HB.out.trans (hb.mono HB.out.size))
        clear hb
        go_wp2_with fail
        refine (HNu.out _).mono ?_; rintro e w' ⟨rfl, rfl⟩
        go_wp2_with fail
        go_ret2
        exact ⟨rfl, B2.out⟩

end Go.Proofs.YteikihidblcljaaGreat

/- The walk of tenorlaw23.awake. -/
namespace Go.Proofs.YteikihidblcljaaGreat
open Go.RowKit
set_option linter.unusedSimpArgs false
set_option linter.unusedVariables false

theorem Wk.closed {L : List Pr} (S : Int → Prop) (h : ∀ p, p ∈ L → ∀ k, S (sr p k) → S (ds p k)) : ∀ {l : List (Pr × Bool)} {f a b : Int}, Wk L f a b l → S a → S b
  | [], _, _, _, w, s => by rw [← show _ = _ from w]; exact s
  | t :: _, _, _, _, w, s => Wk.closed S h w.2.2.2 (h t.1 w.1 t.2 (by rw [w.2.1]; exact s))

def awL : List Pr := [⟨1, 2, 4602678819172646912⟩, ⟨3, 2, 4616189618054758400⟩]
def awF : List Fw := [⟨0, 4616189618054758400, 1⟩, ⟨0, 4607182418800017408, 3⟩]
theorem awL_F64 : ∀ i, F64 (awL.getD i pr0).x := by
  intro i
  match i with
  | 0 => exact ⟨by decide⟩
  | 1 => exact ⟨by decide⟩
  | (i + 2) => exact ⟨by simp [awL, pr0]⟩
theorem awF_F64 : ∀ i, F64 (awF.getD i fw0).x := by
  intro i
  match i with
  | 0 => exact ⟨by decide⟩
  | 1 => exact ⟨by decide⟩
  | (i + 2) => exact ⟨by simp [awF, fw0]⟩
theorem fxAw1 : newT awL 1 = (0, 0) := newT_ok awL 0 rfl (by decide) (by decide) (by decide) (by decide +kernel) (by
  rintro ⟨l, w⟩
  have := Wk.closed (L := List.take 0 awL) (fun x => x = 1) (fun p hp => by simp at hp) w rfl
  exact absurd this (by decide))
theorem fxAw2 : newT awL 2 = (0, 0) := newT_ok awL 1 (by rw [fxAw1]) (by decide) (by decide) (by decide) (by decide +kernel) (by
  rintro ⟨l, w⟩
  have := Wk.closed (L := List.take 1 awL) (fun x => x = 3) (fun p hp k hs => by
    have : p = ⟨1, 2, 4602678819172646912⟩ := by simpa [awL] using hp
    subst this
    cases k
    · exact absurd hs (by decide)
    · exact absurd hs (by decide)) w rfl
  exact absurd this (by decide))
theorem fxAwNew : newA awL = (0, 0) := by unfold newA; rw [if_neg (by decide), show awL.length = 2 from rfl, fxAw2]
theorem fxAwGood : Good awL := by
  have := newT_good awL awL_F64 2 (by decide) (by rw [fxAw2])
  exact this
theorem fxAwC (a b : Int) (l : List (Pr × Bool)) (v : Nat × Int) (hc : chkC a b = 0) (w : Wk awL 0 a b l) (hv : crA l = v) : crsT awL a b = v := by rw [crsT_way fxAwGood.tree.uq hc w, hv]
theorem fxAw13 : crsT awL 1 3 = (4593671619917905920, 0) := fxAwC 1 3 [(⟨1, 2, 4602678819172646912⟩, false), (⟨3, 2, 4616189618054758400⟩, true)] _ (by decide) (by simp [Wk, awL, sr, ds]) (by decide +kernel)
theorem fxAw31 : crsT awL 3 1 = (4620693217682128896, 0) := fxAwC 3 1 [(⟨3, 2, 4616189618054758400⟩, false), (⟨1, 2, 4602678819172646912⟩, true)] _ (by decide) (by simp [Wk, awL, sr, ds]) (by decide +kernel)
theorem fxAw12 : crsT awL 1 2 = (4602678819172646912, 0) := fxAwC 1 2 [(⟨1, 2, 4602678819172646912⟩, false)] _ (by decide) (by simp [Wk, awL, sr, ds]) (by decide +kernel)
theorem fxAw32 : crsT awL 3 2 = (4616189618054758400, 0) := fxAwC 3 2 [(⟨3, 2, 4616189618054758400⟩, false)] _ (by decide) (by simp [Wk, awL, sr, ds]) (by decide +kernel)
theorem fxAw14 : crsT awL 1 4 = (0, 231) := crsT_no (by decide) fun l w => by
  have := Wk.closed (L := awL) (fun x => x ≠ 4) (fun p hp k hs => by
    have : p = ⟨1, 2, 4602678819172646912⟩ ∨ p = ⟨3, 2, 4616189618054758400⟩ := by simpa [awL] using hp
    rcases this with rfl | rfl <;> cases k <;> decide) w (by decide)
  exact this rfl
theorem fxAwS : sumT awL awF 2 = (4618441417868443648, 0) := by
  have h1 : bgF awF 2 = 0 := by decide +kernel
  have h2 : feN awL 2 awF 2 = 0 := by
    have e1 : feN awL 2 awF 1 = 0 := by
      rw [feN, feN, if_neg (by decide), show (awF.getD 0 fw0).c = 1 from rfl, fxAw12]
    rw [feN, e1, if_neg (by decide), show (awF.getD 1 fw0).c = 3 from rfl, fxAw32]
  have h3 : sumZ awL 2 awF 2 = pZ 4616189618054758400 4602678819172646912 + pZ 4607182418800017408 4616189618054758400 := by
    rw [sumZ, sumZ, sumZ, show (awF.getD 0 fw0).c = 1 from rfl, fxAw12, show (awF.getD 1 fw0).c = 3 from rfl, fxAw32, Int.zero_add]
    rfl
  unfold sumT
  rw [h1, if_neg (by decide), show awF.length = 2 from rfl, h2, if_neg (by decide), h3]
  decide +kernel

theorem aw_prs (w : World) : Prs (w.alloc (.cells #[.int .i64 1, .int .i64 2, .float .f64 4602678819172646912, .int .i64 3, .int .i64 2, .float .f64 4616189618054758400] 95)) (some ⟨w.heap.size, 0, none⟩) awL where
  cell := fun k hk => by
    have : k = 0 ∨ k = 1 := by have : awL.length = 2 := rfl; omega
    refine ⟨w.heap.size, 0, rfl, ?_⟩
    rcases this with rfl | rfl
    · refine ⟨?_, ?_, ?_⟩ <;> (unfold World.alloc; simp [World.cell?, Array.getElem?_push, awL])
    · refine ⟨?_, ?_, ?_⟩ <;> (unfold World.alloc; simp [World.cell?, Array.getElem?_push, awL])
  wf := awL_F64
  rg := fun k => by
    match k with
    | 0 => decide
    | 1 => decide
    | (k + 2) => simp [awL, pr0]
  len := by decide
theorem aw_flws (w : World) : Flws (w.alloc (.cells #[.int .i64 0, .float .f64 4616189618054758400, .int .i64 1, .int .i64 0, .float .f64 4607182418800017408, .int .i64 3] 70)) (some ⟨w.heap.size, 0, none⟩) awF where
  cell := fun k hk => by
    have : k = 0 ∨ k = 1 := by have : awF.length = 2 := rfl; omega
    refine ⟨w.heap.size, 0, rfl, ?_⟩
    rcases this with rfl | rfl
    · refine ⟨?_, ?_, ?_⟩ <;> (unfold World.alloc; simp [World.cell?, Array.getElem?_push, awF])
    · refine ⟨?_, ?_, ?_⟩ <;> (unfold World.alloc; simp [World.cell?, Array.getElem?_push, awF])
  wf := awF_F64
  rg := fun k => by
    match k with
    | 0 => decide
    | 1 => decide
    | (k + 2) => simp [awF, fw0]
  len := by decide

set_option maxHeartbeats 1600000 in
set_option maxRecDepth 100000 in
theorem awake23_any (w : World) :
    Calls Tryz.prog 7 #[] w fun e w' => e = .returned (.bool true) ∧ Below w.heap.size w w' := by
  have o1 : (FloatKind.f64.format.order 4593671619917905920 4593671619917905920 == some .eq) = true := by decide +kernel
  have o2 : (FloatKind.f64.format.order 4620693217682128896 4620693217682128896 == some .eq) = true := by decide +kernel
  have o3 : (FloatKind.f64.format.order 4618441417868443648 4618441417868443648 == some .eq) = true := by decide +kernel
  have HNw := Hd.mk fun w1 (h : Prs w1 (some ⟨w.heap.size, 0, none⟩) awL) => fxNew_any (some ⟨w.heap.size, 0, none⟩) awL 2 w1 h
  rw [show awL.length = 2 from rfl] at HNw
  have HP := Hd.mk (aw_prs w)
  have HB0 : Hd (Below w.heap.size w (w.alloc (.cells #[.int .i64 1, .int .i64 2, .float .f64 4602678819172646912, .int .i64 3, .int .i64 2, .float .f64 4616189618054758400] 95))) := ⟨(Below.refl _ _).alloc (Nat.le_refl _) _⟩
  go_enter Tryz.func7, Tryz.ntmps7
  go_wp2_with fail
  refine (HNw.out _ HP.out).mono ?_
  rintro e w1 ⟨⟨hn, b, rfl, hb1, ht⟩ | ⟨hn, _⟩, hb⟩
  rotate_left
  · rw [fxAwNew] at hn; exact absurd rfl hn
  have T1 := Hd.mk ht.tab
  have B1 := Hd.mk (HB0.out.trans (hb.mono HB0.out.size))
  clear hn hb1 ht hb HNw HP HB0
  have C13 := Hd.mk fun w1 h => cross_any awL fxAwGood b 1 3 w1 h
  rw [fxAw13] at C13
  have C31 := Hd.mk fun w1 h => cross_any awL fxAwGood b 3 1 w1 h
  rw [fxAw31] at C31
  have C14 := Hd.mk fun w1 h => cross_any awL fxAwGood b 1 4 w1 h
  rw [fxAw14] at C14
  unfold CrsRet at C13 C31 C14
  dsimp only at C13 C31 C14
  go_wp2_with fail
  refine (C13.out _ T1.out).mono ?_; rintro e w2 ⟨rfl, hb⟩
  have T2 := Hd.mk (T1.out.below hb)
  have B2 := Hd.mk (B1.out.trans (hb.mono B1.out.size))
  clear hb
  go_wp2_with fail
  refine (C31.out _ T2.out).mono ?_; rintro e w3 ⟨rfl, hb⟩
  have T3 := Hd.mk (T2.out.below hb)
  have B3 := Hd.mk (B2.out.trans (hb.mono B2.out.size))
  clear hb
  have HF := Hd.mk (aw_flws w3)
  have hb4 : Below w3.heap.size w3 (w3.alloc (.cells #[.int .i64 0, .float .f64 4616189618054758400, .int .i64 1, .int .i64 0, .float .f64 4607182418800017408, .int .i64 3] 70)) := (Below.refl _ _).alloc (Nat.le_refl _) _
  have T4 := Hd.mk (T3.out.below hb4)
  have B4 := Hd.mk (B3.out.trans (hb4.mono B3.out.size))
  have HS := Hd.mk (fxSum_any awL fxAwGood b _ awF 2 2 _ T4.out HF.out)
  rw [fxAwS, show awF.length = 2 from rfl] at HS
  unfold CrsRet at HS
  dsimp only at HS
  clear hb4
  go_wp2_with fail
  refine (HS.out).mono ?_; rintro e w5 ⟨rfl, hb⟩
  have T5 := Hd.mk (T4.out.below hb)
  have B5 := Hd.mk (B4.out.trans (hb.mono B4.out.size))
  clear hb HS HF T4 B4
  go_wp2_with fail
  refine (C14.out _ T5.out).mono ?_; rintro e w6 ⟨rfl, hb⟩
  have B6 := Hd.mk (B5.out.trans (hb.mono B5.out.size))
  clear hb
  go_wp2_with fail
  go_ret
  exact ⟨rfl, B6.out⟩

end Go.Proofs.YteikihidblcljaaGreat
