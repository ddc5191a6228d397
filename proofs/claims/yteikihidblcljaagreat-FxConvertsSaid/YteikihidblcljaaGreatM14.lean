/- Put together out of several texts: Yg Yi. -/
import Derived.Test.YteikihidblcljaaGreatM13
import Derived.Test.YteikihidblcljaaGreatM1
import Derived.Test.YteikihidblcljaaGreatM2
import Derived.Handy

/- The walk of fx's way. -/
namespace Go.Proofs.YteikihidblcljaaGreat
open Go.RowKit
set_option linter.unusedSimpArgs false
set_option linter.unusedVariables false

/-- The steps of a way, as the program keeps them: the last one first. -/
def stV (l : List (Pr × Bool)) : List Value := l.reverse.flatMap fun s => [.float .f64 s.1.x, .bool s.2]
theorem stV_nil : stV [] = [] := rfl
theorem stV_cons (p : Pr) (k : Bool) (l : List (Pr × Bool)) : stV ((p, k) :: l) = stV l ++ [.float .f64 p.x, .bool k] := by
  unfold stV
  rw [List.reverse_cons, List.flatMap_append]
  rfl
/-- It returns a way, if there is one. -/
def FxWayRet (L : List Pr) (f a b : Int) (w : World) (e : Ending) (w' : World) : Prop :=
  ((∃ l v, Wk L f a b l ∧ e = .returned (.tuple #[v, .bool true]) ∧ w'.ownsRow w.heap.size 160 2 v l.length (stV l)) ∨ ((∀ l, ¬ Wk L f a b l) ∧ e = .returned (.tuple #[.slice none 0 0, .bool false]))) ∧ Below w.heap.size w w'
theorem info_step : (Tryz.prog.info? 160).map (fun i => (i.zero, i.size, i.bytes)) = some (some (.agg #[.float .f64 0, .bool false]), 2, 16) := by kernel_rfl

theorem way_same (L : List Pr) (f a : Int) (w : World) (t : Nat) :
    Calls Tryz.prog 80 #[.pointer (some ⟨t, 0, none⟩), .int .i64 a, .int .i64 a, .int .i64 f] w (FxWayRet L f a a w) := by
  have d : (a == a) = true := by simp
  go_enter Tryz.func80, Tryz.ntmps80
  go_wp2_with fail
  go_ret2
  exact ⟨Or.inl ⟨[], .slice none 0 0, rfl, rfl, World.ownsRow_nil _ _ _ _⟩, Below.refl _ _⟩

theorem box_pair (w : World) (pa pb : Int) (px : Nat) : ∃ W, (w.alloc (.cells #[.int .i64 pa, .int .i64 pb, .float .f64 px] 95)) = W ∧ Below w.heap.size w W ∧ W.cell? ⟨w.heap.size, 0, none⟩ = some (.int .i64 pa) ∧ W.cell? ⟨w.heap.size, 1, none⟩ = some (.int .i64 pb) ∧ W.cell? ⟨w.heap.size, 2, none⟩ = some (.float .f64 px) := by
  refine ⟨_, rfl, (Below.refl _ _).alloc (Nat.le_refl _) _, ?_, ?_, ?_⟩ <;> (unfold World.alloc; simp [World.cell?, Array.getElem?_push])
theorem cell_trP {w w' : World} (hb : Below w.heap.size w w') {b i : Nat} {v : Value} (h : w.cell? ⟨b, i, none⟩ = some v) : w'.cell? ⟨b, i, none⟩ = some v := (hb.cell (p := ⟨b, i, none⟩) (World.block_lt_of_cell? _ _ h)).trans h
/-- What the world is like behind the new step. -/
theorem way_step {w w1 w2 : World} {o : Obj} {v v' : Value} {n : Nat} {l : List (Pr × Bool)} {p : Pr} {k : Bool} (hb : Below w.heap.size w w1) (ho : w1.ownsRow w.heap.size 160 2 v n (stV l))
    (ho' : w2.ownsRow w.heap.size 160 2 v' (n + 1) (stV l ++ [.float .f64 p.x, .bool k])) (hg : (w1.alloc o).grownBy w2 v.ownBlock) : w2.ownsRow w.heap.size 160 2 v' (n + 1) (stV ((p, k) :: l)) ∧ Below w.heap.size w w2 := by
  rw [stV_cons]
  exact ⟨ho', (hb.alloc hb.size o).grown hg (by have := hb.size; simp; omega) fun k hk => (ho.lt k hk).1⟩


set_option maxHeartbeats 3200000 in
set_option maxRecDepth 100000 in
theorem way_any (L : List Pr) (t b : Int) (tb : Nat) (tr : Tree L) : ∀ (n : Nat) (f a : Int) (w : World), Dep L f a n → TabIs w tb L →
    Calls Tryz.prog 80 #[.pointer (some ⟨tb, 0, none⟩), .int .i64 a, .int .i64 b, .int .i64 f] w (FxWayRet L f a b w)
  | 0, f, a, w, hd, _ => (Dep.none hd).elim
  | n + 1, f, a, w, hd, ht => by
    by_cases hab : a = b
    · subst hab; exact way_same L f a w tb
    have IH := Hd.mk (way_any L t b tb tr n)
    obtain ⟨i0, hi0, hz0, hz1, hz2⟩ := info_parts info_step
    obtain ⟨ad, c, ht0, hp⟩ := ht.ex
    have HP := Hd.mk hp
    have HT := Hd.mk ht
    have HD := Hd.mk hd
    have HA := Hd.mk hab
    have d0 : (a == b) = false := by rw [beq_eq_false_iff_ne]; exact hab
    have hl := hp.len
    obtain ⟨N, hN⟩ : ∃ N, L.length = N := ⟨_, rfl⟩
    rw [hN] at ht0 hl
    have HN := Hd.mk hN
    clear hp ht hd hab hN
    go_enter Tryz.func80, Tryz.ntmps80
    go_wp2_with fail
    clear ht0
    go_loopw [24] (fun iv wr => ∃ k : Nat, k ≤ N ∧ iv = .int .i64 k ∧ Hd (NoW L f a b k) ∧ Hd (Below w.heap.size w wr)) (fun iv _ => N - (intOf iv).toNat)
    case atStart => exact ⟨0, Nat.zero_le _, rfl, ⟨NoW.zero _ _ _ _⟩, ⟨Below.refl _ _⟩⟩
    case round =>
      obtain ⟨k, hk, rfl, HW, HB⟩ := hrel
      by_cases hlt : k < N
      · have hlt' : (k : Int) < N := by omega
        have k0 : (0 : Int) ≤ k := by omega
        obtain ⟨bb, oo, rfl, c1, c2, c3⟩ := (HP.out.below HB.out).cell k (by rw [HN.out]; exact hlt)
        have hm : Hd (L.getD k pr0 ∈ L) := ⟨getD_memP (by rw [HN.out]; exact hlt)⟩
        generalize hp : L.getD k pr0 = p at *
        obtain ⟨pa, pb, px⟩ := p
        dsimp only at c1 c2 c3
        have hne : pa ≠ pb := (tr.cy _ hm.out).2.2
        by_cases h1 : pb = a
        · have e1 : (pb == a) = true := by rw [beq_iff_eq]; exact h1
          have e2 : (pb != a) = false := by rw [bne_eq_false_iff_eq]; exact h1
          have e3 : (pa != a) = true := by rw [bne_iff_ne]; omega
          by_cases h2 : pa = f
          · have e4 : (pa == f) = true := by rw [beq_iff_eq]; exact h2
            have HS : Hd (∀ j, sr ⟨pa, pb, px⟩ j = a → ds ⟨pa, pb, px⟩ j ≠ f → False) := ⟨fun j => by cases j <;> simp [sr, ds] <;> omega⟩
            clear h1 h2 hne
            have HN2 : Hd (NoW L f a b (k + 1)) := ⟨HW.out.succ fun j l hw => by
              rw [hp] at hw
              exact HS.out j hw.2.1 hw.2.2.1⟩
            obtain ⟨W, hW, b1, q0, q1, q2⟩ := box_pair wr pa pb px
            have B1 := Hd.mk (HB.out.trans (b1.mono HB.out.size))
            clear b1
            go_wp2_with fail
            (try rw [hW])
            exact ⟨⟨k + 1, by omega, by go_num, HN2, B1⟩, by simp [intOf]; omega⟩
          · have e4 : (pa == f) = false := by rw [beq_eq_false_iff_ne]; exact h2
            have HI : Hd (∀ W, Below w.heap.size w W → Calls Tryz.prog 80 #[.pointer (some ⟨tb, 0, none⟩), .int .i64 pa, .int .i64 b, .int .i64 a] W (FxWayRet L a pa b W)) := ⟨fun W hB => IH.out a pa W (HD.out.next (k := true) hm.out h1 h2) (HT.out.below hB)⟩
            have HWk : Hd (∀ l, Wk L a pa b l → Wk L f a b ((⟨pa, pb, px⟩, true) :: l)) := ⟨fun l hw => ⟨hm.out, h1, h2, hw⟩⟩
            have HNo : Hd ((∀ l, ¬ Wk L a pa b l) → NoW L f a b (k + 1)) := ⟨fun hn => HW.out.succ fun j l hw => by
              rw [hp] at hw
              have hk2 : j = true := by
                have := hw.2.1
                cases j
                · first | rfl | exact absurd this (by show pa ≠ a; omega)
                · first | rfl | exact absurd this (by show pb ≠ a; omega)
              subst hk2
              exact hn l hw.2.2.2⟩
            clear h1 h2 hne
            obtain ⟨W, hW, b1, q0, q1, q2⟩ := box_pair wr pa pb px
            have B1 := Hd.mk (HB.out.trans (b1.mono HB.out.size))
            clear b1
            go_wp2_with fail
            (try rw [hW])
            clear hW
            refine (HI.out _ B1.out).mono ?_
            rintro e w1 ⟨⟨l, v, hw, rfl, ho⟩ | ⟨hn, rfl⟩, hb⟩
            · have HWl := Hd.mk (HWk.out l hw)
              have HLn : Hd (l.length ≤ 9) := ⟨by have := hw.short tr; omega⟩
              have HO := Hd.mk (ho.mono B1.out.size)
              have r2 := cell_trP hb q2
              have B2 := Hd.mk (B1.out.trans (hb.mono B1.out.size))
              have hs2 : w.heap.size ≤ w1.heap.size := B2.out.size
              generalize hln : l.length = ln at *
              have HLN := Hd.mk hln
              have HM : Hd (ln + 1 ≤ maxLen ∧ (ln + 1) * 16 ≤ 140737488355328) := ⟨by have := HLn.out; unfold maxLen; omega, by have := HLn.out; omega⟩
              clear hw ho hb q0 q1 q2 hln
              go_wp2_with (at_builtin; refine wpList_append_own _ rfl (.tmp 60) (.tmp 65) 151 rfl w.heap.size 160 i0 (.agg #[.float .f64 0, .bool false]) 2 16 Tryz.underlying151 hi0 hz0 hz1 hz2 rfl (by decide) v ln (stV l) rfl (HO.out.alloc _) ⟨w1.heap.size, 0, none⟩ 1 1 [.float .f64 px, .bool true] rfl rfl (by
                intro j u hj
                match j, hj with
                | 0, hj => simp at hj; subst hj; simp [Addr.add]
                | 1, hj => simp at hj; subst hj; simp [Addr.add]) (by intro u hu; simp at hu; rcases hu with rfl | rfl <;> rfl) HM.out.1 HM.out.2 (by simp; omega) ?_)
              intro v' w2 ho2 hg2 he2
              obtain ⟨ho3, hb3⟩ := way_step (p := ⟨pa, pb, px⟩) (k := true) B2.out HO.out ho2 hg2
              have HO3 := Hd.mk ho3
              have HB3 := Hd.mk hb3
              clear ho2 hg2 he2 ho3 hb3
              go_wp2_with fail
              go_ret2
              exact ⟨Or.inl ⟨_, v', HWl.out, rfl, by rw [List.length_cons, HLN.out]; exact HO3.out⟩, HB3.out⟩
            · have HN2 := Hd.mk (HNo.out hn)
              have B2 := Hd.mk (B1.out.trans (hb.mono B1.out.size))
              clear hn hb q0 q1 q2
              go_wp2_with fail
              exact ⟨⟨k + 1, by omega, by go_num, HN2, B2⟩, by simp [intOf]; omega⟩
        · have e1 : (pb == a) = false := by rw [beq_eq_false_iff_ne]; exact h1
          have e2 : (pb != a) = true := by rw [bne_iff_ne]; exact h1
          by_cases h3 : pa = a
          · have e3 : (pa != a) = false := by rw [bne_eq_false_iff_eq]; exact h3
            by_cases h2 : pb = f
            · have e4 : (pb == f) = true := by rw [beq_iff_eq]; exact h2
              have HS : Hd (∀ j, sr ⟨pa, pb, px⟩ j = a → ds ⟨pa, pb, px⟩ j ≠ f → False) := ⟨fun j => by cases j <;> simp [sr, ds] <;> omega⟩
              clear h1 h2 hne h3
              have HN2 : Hd (NoW L f a b (k + 1)) := ⟨HW.out.succ fun j l hw => by
                rw [hp] at hw
                exact HS.out j hw.2.1 hw.2.2.1⟩
              obtain ⟨W, hW, b1, q0, q1, q2⟩ := box_pair wr pa pb px
              have B1 := Hd.mk (HB.out.trans (b1.mono HB.out.size))
              clear b1
              go_wp2_with fail
              (try rw [hW])
              exact ⟨⟨k + 1, by omega, by go_num, HN2, B1⟩, by simp [intOf]; omega⟩
            · have e4 : (pb == f) = false := by rw [beq_eq_false_iff_ne]; exact h2
              have HI : Hd (∀ W, Below w.heap.size w W → Calls Tryz.prog 80 #[.pointer (some ⟨tb, 0, none⟩), .int .i64 pb, .int .i64 b, .int .i64 a] W (FxWayRet L a pb b W)) := ⟨fun W hB => IH.out a pb W (HD.out.next (k := false) hm.out h3 h2) (HT.out.below hB)⟩
              have HWk : Hd (∀ l, Wk L a pb b l → Wk L f a b ((⟨pa, pb, px⟩, false) :: l)) := ⟨fun l hw => ⟨hm.out, h3, h2, hw⟩⟩
              have HNo : Hd ((∀ l, ¬ Wk L a pb b l) → NoW L f a b (k + 1)) := ⟨fun hn => HW.out.succ fun j l hw => by
                rw [hp] at hw
                have hk2 : j = false := by
                  have := hw.2.1
                  cases j
                  · first | rfl | exact absurd this (by show pa ≠ a; omega)
                  · first | rfl | exact absurd this (by show pb ≠ a; omega)
                subst hk2
                exact hn l hw.2.2.2⟩
              clear h1 h2 hne h3
              obtain ⟨W, hW, b1, q0, q1, q2⟩ := box_pair wr pa pb px
              have B1 := Hd.mk (HB.out.trans (b1.mono HB.out.size))
              clear b1
              go_wp2_with fail
              (try rw [hW])
              clear hW
              refine (HI.out _ B1.out).mono ?_
              rintro e w1 ⟨⟨l, v, hw, rfl, ho⟩ | ⟨hn, rfl⟩, hb⟩
              · have HWl := Hd.mk (HWk.out l hw)
                have HLn : Hd (l.length ≤ 9) := ⟨by have := hw.short tr; omega⟩
                have HO := Hd.mk (ho.mono B1.out.size)
                have r2 := cell_trP hb q2
                have B2 := Hd.mk (B1.out.trans (hb.mono B1.out.size))
                have hs2 : w.heap.size ≤ w1.heap.size := B2.out.size
                generalize hln : l.length = ln at *
                have HLN := Hd.mk hln
                have HM : Hd (ln + 1 ≤ maxLen ∧ (ln + 1) * 16 ≤ 140737488355328) := ⟨by have := HLn.out; unfold maxLen; omega, by have := HLn.out; omega⟩
                clear hw ho hb q0 q1 q2 hln
                go_wp2_with (at_builtin; refine wpList_append_own _ rfl (.tmp 60) (.tmp 65) 151 rfl w.heap.size 160 i0 (.agg #[.float .f64 0, .bool false]) 2 16 Tryz.underlying151 hi0 hz0 hz1 hz2 rfl (by decide) v ln (stV l) rfl (HO.out.alloc _) ⟨w1.heap.size, 0, none⟩ 1 1 [.float .f64 px, .bool false] rfl rfl (by
                  intro j u hj
                  match j, hj with
                  | 0, hj => simp at hj; subst hj; simp [Addr.add]
                  | 1, hj => simp at hj; subst hj; simp [Addr.add]) (by intro u hu; simp at hu; rcases hu with rfl | rfl <;> rfl) HM.out.1 HM.out.2 (by simp; omega) ?_)
                intro v' w2 ho2 hg2 he2
                obtain ⟨ho3, hb3⟩ := way_step (p := ⟨pa, pb, px⟩) (k := false) B2.out HO.out ho2 hg2
                have HO3 := Hd.mk ho3
                have HB3 := Hd.mk hb3
                clear ho2 hg2 he2 ho3 hb3
                go_wp2_with fail
                go_ret2
                exact ⟨Or.inl ⟨_, v', HWl.out, rfl, by rw [List.length_cons, HLN.out]; exact HO3.out⟩, HB3.out⟩
              · have HN2 := Hd.mk (HNo.out hn)
                have B2 := Hd.mk (B1.out.trans (hb.mono B1.out.size))
                clear hn hb q0 q1 q2
                go_wp2_with fail
                exact ⟨⟨k + 1, by omega, by go_num, HN2, B2⟩, by simp [intOf]; omega⟩
          · have e3 : (pa != a) = true := by rw [bne_iff_ne]; exact h3
            have HS : Hd (∀ j, sr ⟨pa, pb, px⟩ j = a → ds ⟨pa, pb, px⟩ j ≠ f → False) := ⟨fun j => by cases j <;> simp [sr, ds] <;> omega⟩
            clear h1 hne h3
            have HN2 : Hd (NoW L f a b (k + 1)) := ⟨HW.out.succ fun j l hw => by
              rw [hp] at hw
              exact HS.out j hw.2.1 hw.2.2.1⟩
            obtain ⟨W, hW, b1, q0, q1, q2⟩ := box_pair wr pa pb px
            have B1 := Hd.mk (HB.out.trans (b1.mono HB.out.size))
            clear b1
            go_wp2_with fail
            (try rw [hW])
            exact ⟨⟨k + 1, by omega, by go_num, HN2, B1⟩, by simp [intOf]; omega⟩
      · have hge : ¬ (k : Int) < N := by omega
        have HR : Hd (∀ l, ¬ Wk L f a b l) := ⟨fun l => NoW.all (by rw [HN.out]; rw [show N = k by omega]; exact HW.out) HA.out l⟩
        clear hlt
        go_wp2_with fail
        go_ret2
        exact ⟨Or.inr ⟨HR.out, rfl⟩, HB.out⟩

end Go.Proofs.YteikihidblcljaaGreat

/- The walk of fx's Cross and Joined. -/
namespace Go.Proofs.YteikihidblcljaaGreat
open Go.RowKit
set_option linter.unusedSimpArgs false
set_option linter.unusedVariables false

open Classical in
/-- What Cross answers. -/
noncomputable def crsT (L : List Pr) (a b : Int) : Nat × Int :=
  if chkC a b ≠ 0 then (0, 140) else if h : ∃ l, Wk L 0 a b l then crA (Classical.choose h) else (0, 231)
theorem crsT_bad {L : List Pr} {a b : Int} (h : chkC a b ≠ 0) : crsT L a b = (0, 140) := by unfold crsT; rw [if_pos h]
theorem crsT_no {L : List Pr} {a b : Int} (h : chkC a b = 0) (hn : ∀ l, ¬ Wk L 0 a b l) : crsT L a b = (0, 231) := by
  unfold crsT
  rw [if_neg (by omega), dif_neg (fun ⟨l, w⟩ => hn l w)]
theorem crsT_way {L : List Pr} {a b : Int} (u : Uq L) (h : chkC a b = 0) {l : List (Pr × Bool)} (w : Wk L 0 a b l) : crsT L a b = crA l := by
  unfold crsT
  have hx : ∃ l, Wk L 0 a b l := ⟨l, w⟩
  rw [if_neg (by omega), dif_pos hx, u _ _ _ _ _ _ (Classical.choose_spec hx) w]
theorem chkC_140 {a b : Int} (h : chkC a b ≠ 0) : chkC a b = 140 := by
  unfold chkC at *; split at * <;> simp_all
open Classical in
/-- What Joined answers. -/
noncomputable def jnT (L : List Pr) (a b : Int) : Bool × Int := if chkC a b ≠ 0 then (false, 140) else (decide (Jn L a b), 0)

open Classical in
theorem jnT_bad {L : List Pr} {a b : Int} (h : chkC a b ≠ 0) : jnT L a b = (false, 140) := by unfold jnT; rw [if_pos h]
open Classical in
theorem jnT_no {L : List Pr} {a b : Int} (h : chkC a b = 0) (hn : ∀ l, ¬ Wk L 0 a b l) : jnT L a b = (false, 0) := by
  unfold jnT; rw [if_neg (by omega), decide_eq_false (fun ⟨l, hl⟩ => hn l hl)]
open Classical in
theorem jnT_yes {L : List Pr} {a b : Int} (h : chkC a b = 0) {l : List (Pr × Bool)} (hw : Wk L 0 a b l) : jnT L a b = (true, 0) := by
  unfold jnT; rw [if_neg (by omega), decide_eq_true ⟨l, hw⟩]

/-- The j-th step in memory. -/
theorem stV_get (l : List (Pr × Bool)) (j : Nat) (h : j < l.length) : (stV l)[j * 2]? = some (.float .f64 l[l.length - 1 - j].1.x) ∧ (stV l)[j * 2 + 1]? = some (.bool l[l.length - 1 - j].2) := by
  unfold stV
  have key : ∀ (m : List (Pr × Bool)) (j : Nat) (h : j < m.length), (m.flatMap fun s => [Value.float .f64 s.1.x, .bool s.2])[j * 2]? = some (.float .f64 m[j].1.x) ∧ (m.flatMap fun s => [Value.float .f64 s.1.x, .bool s.2])[j * 2 + 1]? = some (.bool m[j].2) := by
    intro m
    induction m with
    | nil => intro j h; simp at h
    | cons s r ih =>
      intro j h
      cases j with
      | zero => exact ⟨rfl, rfl⟩
      | succ j =>
        have := ih j (by simpa using h)
        rw [show (j + 1) * 2 = j * 2 + 1 + 1 by omega]
        simp only [List.flatMap_cons, List.cons_append, List.nil_append, List.getElem?_cons_succ, List.getElem_cons_succ]
        exact this
  have := key l.reverse j (by simpa using h)
  rw [List.getElem_reverse] at this
  exact this

theorem box_big2 (w : World) : ∃ W, ((w.alloc (.cells #[.int .u64 1, .int .u64 0, .int .u64 0, .int .u64 0, .int .u64 0, .int .u64 0, .int .u64 0, .int .u64 0, .int .i64 0] 158)).alloc (.cells #[.int .u64 1, .int .u64 0, .int .u64 0, .int .u64 0, .int .u64 0, .int .u64 0, .int .u64 0, .int .u64 0, .int .i64 0] 158)) = W ∧
    BigIs W w.heap.size 1 0 ∧ BigIs W (w.heap.size + 1) 1 0 ∧ Below w.heap.size w W := by
  have hc : ∀ i, i < 9 → (#[Value.int .u64 1, .int .u64 0, .int .u64 0, .int .u64 0, .int .u64 0, .int .u64 0, .int .u64 0, .int .u64 0, .int .i64 0])[i]? = some (bigF ((1 : Nat) : Int) 0 i) := by
    intro i hi
    have h1 : dZ ((1 : Nat) : Int) 0 = 1 := by rw [dZ_nat]; rfl
    have h2 : ∀ i, 1 ≤ i → dZ ((1 : Nat) : Int) i = 0 := fun i hi => by
      rw [dZ_nat]
      unfold wN
      rw [Nat.div_eq_of_lt]
      · rfl
      · exact Nat.lt_of_lt_of_le (by decide : 1 < 2 ^ 64) (Nat.pow_le_pow_right (by decide) (by omega))
    unfold bigF
    rcases (by omega : i = 0 ∨ i = 1 ∨ i = 2 ∨ i = 3 ∨ i = 4 ∨ i = 5 ∨ i = 6 ∨ i = 7 ∨ i = 8) with rfl | rfl | rfl | rfl | rfl | rfl | rfl | rfl | rfl
    · rw [if_pos (by decide), h1]; rfl
    all_goals first | (rw [if_pos (by decide), h2 _ (by decide)]; rfl) | rfl
  refine ⟨_, rfl, ?_, ?_, ((Below.refl _ _).alloc (Nat.le_refl _) _).alloc (by simp) _⟩
  · exact (World.rowIs_alloc w _ 158 (bigF ((1 : Nat) : Int) 0) (fun i hi => hc i (by simpa using hi))).alloc _
  · have := World.rowIs_alloc (w.alloc (.cells #[.int .u64 1, .int .u64 0, .int .u64 0, .int .u64 0, .int .u64 0, .int .u64 0, .int .u64 0, .int .u64 0, .int .i64 0] 158)) #[Value.int .u64 1, .int .u64 0, .int .u64 0, .int .u64 0, .int .u64 0, .int .u64 0, .int .u64 0, .int .u64 0, .int .i64 0] 158 (bigF ((1 : Nat) : Int) 0) (fun i hi => hc i (by simpa using hi))
    simp only [World.size_alloc] at this
    exact this

/-- It returns a rate, or what is wrong. -/
def CrsRet (v : Nat × Int) (w : World) (e : Ending) (w' : World) : Prop := e = .returned (.tuple #[.float .f64 v.1, .int .i64 v.2]) ∧ Below w.heap.size w w'

set_option maxHeartbeats 3200000 in
set_option maxRecDepth 100000 in
theorem cross_bad (L : List Pr) (tb : Nat) (a b : Int) (w : World) (h : chkC a b ≠ 0) :
    Calls Tryz.prog 36 #[.pointer (some ⟨tb, 0, none⟩), .int .i64 a, .int .i64 b] w (CrsRet (crsT L a b) w) := by
  rw [crsT_bad h]
  have HC := Hd.mk (fxCheck_any a b)
  rw [chkC_140 h] at HC
  clear h
  go_enter Tryz.func36, Tryz.ntmps36
  go_wp2_with fail
  refine (HC.out _).mono ?_; rintro e w' ⟨rfl, rfl⟩
  go_wp2_with fail
  go_ret2
  exact ⟨rfl, Below.refl _ _⟩

set_option maxHeartbeats 3200000 in
set_option maxRecDepth 100000 in
theorem cross_any (L : List Pr) (g : Good L) (tb : Nat) (a b : Int) (w : World) (ht : TabIs w tb L) :
    Calls Tryz.prog 36 #[.pointer (some ⟨tb, 0, none⟩), .int .i64 a, .int .i64 b] w (CrsRet (crsT L a b) w) := by
  by_cases h : chkC a b = 0
  rotate_left
  · exact cross_bad L tb a b w h
  have HC := Hd.mk (fxCheck_any a b)
  rw [h] at HC
  have HW := Hd.mk (way_any L a b tb g.tree 9 0 a w (Dep.top g.tree 0 a) ht)
  have HVn : Hd ((∀ l, ¬ Wk L 0 a b l) → crsT L a b = (0, 231)) := ⟨crsT_no h⟩
  have HVw : Hd (∀ l, Wk L 0 a b l → crsT L a b = crA l) := ⟨fun l hw => crsT_way g.tree.uq h hw⟩
  generalize crsT L a b = V at *
  clear h ht
  go_enter Tryz.func36, Tryz.ntmps36
  go_wp2_with fail
  refine (HC.out _).mono ?_; rintro e w' ⟨rfl, rfl⟩
  go_wp2_with fail
  refine HW.out.mono ?_; rintro e w1 ⟨⟨l, v, hw, rfl, ho⟩ | ⟨hn, rfl⟩, hb⟩
  rotate_left
  · have hv := HVn.out hn
    subst hv
    have HB := Hd.mk hb
    clear hn hb
    go_wp2_with fail
    go_ret2
    exact ⟨rfl, HB.out⟩
  have hv := HVw.out l hw
  subst hv
  have hl := hw.short g.tree
  have HM := Hd.mk hw.mem
  have HP := Hd.mk g.pos
  have HO := Hd.mk ho
  have HB := Hd.mk hb
  have hsl : ∃ A c, v = .slice A l.length c := by
    rcases ho.2 with ⟨e, e2⟩ | ⟨gg, cap, cur, e, _⟩
    · exact ⟨none, 0, by rw [e, e2]⟩
    · exact ⟨_, _, e⟩
  obtain ⟨A, c, rfl⟩ := hsl
  have QF := Hd.mk (quo_F64 (wM false l) (wE false l) (wM true l) (wE true l))
  have HA : Hd (crA l = if mg (crQ l) = 0 ∨ fin (crQ l) = false then (0, 91) else (crQ l, 0)) := ⟨rfl⟩
  have HQ : Hd (quo (wM false l) (wE false l) (wM true l) (wE true l) = crQ l) := ⟨rfl⟩
  rw [HQ.out] at QF
  generalize crQ l = R at *
  generalize crA l = V at *
  obtain ⟨n, hn⟩ : ∃ n, l.length = n := ⟨_, rfl⟩
  rw [hn] at hl HO ⊢
  have HN := Hd.mk hn
  clear hw ho hb hn HW HC HVw HVn
  obtain ⟨W, hW, b1, b2, b3⟩ := box_big2 w1
  have G1 : Hd (BigIs W w1.heap.size (wM false (l.drop (n - 0))) (wE false (l.drop (n - 0)))) := ⟨by rw [List.drop_eq_nil_of_le (by have := HN.out; omega)]; exact b1⟩
  have G2 : Hd (BigIs W (w1.heap.size + 1) (wM true (l.drop (n - 0))) (wE true (l.drop (n - 0)))) := ⟨by rw [List.drop_eq_nil_of_le (by have := HN.out; omega)]; exact b2⟩
  have G3 := Hd.mk b3
  clear b1 b2 b3
  go_wp2_with fail
  (try rw [hW])
  clear hW
  go_loopw [39] (fun iv wr => ∃ j : Nat, j ≤ n ∧ iv = .int .i64 j ∧ Hd (BigIs wr w1.heap.size (wM false (l.drop (n - j))) (wE false (l.drop (n - j)))) ∧ Hd (BigIs wr (w1.heap.size + 1) (wM true (l.drop (n - j))) (wE true (l.drop (n - j)))) ∧ Hd (Below w1.heap.size w1 wr)) (fun iv _ => n - (intOf iv).toNat)
  case atStart => exact ⟨0, Nat.zero_le _, rfl, G1, G2, G3⟩
  case round =>
    clear G1 G2 G3
    obtain ⟨j, hj, rfl, G1, G2, G3⟩ := hrel
    by_cases hlt : j < n
    · have hlt' : (j : Int) < n := by omega
      have j0 : (0 : Int) ≤ j := by omega
      have hl2 := HN.out
      obtain ⟨c1, c2⟩ := stV_get l j (by omega)
      obtain ⟨gg, hgg⟩ : ∃ gg, A = some ⟨gg, 0, none⟩ := by
        rcases HO.out.2 with ⟨e, e2⟩ | ⟨gg, cap, cur, e, _⟩
        · omega
        · simp at e; exact ⟨gg, e.1⟩
      subst hgg
      have k1 := HO.out.cells rfl _ _ c1
      have k2 := HO.out.cells rfl _ _ c2
      have hd1 := w_drop false l (n - (j + 1)) (by omega)
      have hd2 := w_drop true l (n - (j + 1)) (by omega)
      have hmem := HM.out _ (List.getElem_mem (show l.length - 1 - j < l.length by omega))
      have hix : l[l.length - 1 - j] = l[n - (j + 1)] := by congr 1; omega
      rw [hix] at k1 k2 hmem
      rw [show n - (j + 1) + 1 = n - j by omega] at hd1 hd2
      have HR := Hd.mk (HP.out _ hmem)
      have EB := Hd.mk fun k => wE_bd HP.out k (l.drop (n - j)) fun s hs => HM.out s (List.mem_of_mem_drop hs)
      have hlen : Hd ((l.drop (n - j)).length ≤ 8) := ⟨by rw [List.length_drop]; omega⟩
      have eb : Hd (∀ k, -1000000 ≤ wE k (l.drop (n - j)) ∧ wE k (l.drop (n - j)) ≤ 1000000) := ⟨fun k => by have := EB.out k; have := hlen.out; omega⟩
      generalize l[n - (j + 1)] = s at *
      obtain ⟨p, kb⟩ := s
      dsimp only at k1 k2 hd1 hd2
      have ha : ∀ i, (⟨gg, 0, none⟩ : Addr).add i = ⟨gg, i, none⟩ := fun i => by by_cases h0 : i = 0 <;> simp [Addr.add, h0]
      rw [ha] at k1 k2
      have q1 := cell_trP G3.out k1
      have q2 := cell_trP G3.out k2
      have hgl : gg < w1.heap.size := World.block_lt_of_cell? _ _ k1
      have hws : w1.heap.size + 1 < wr.heap.size := G2.out.lt
      have HTp := Hd.mk fun w' h => times_big w1.heap.size (wM false (l.drop (n - j))) (wE false (l.drop (n - j))) p.x w' h HR.out (eb.out false)
      have HTq := Hd.mk fun w' h => times_big (w1.heap.size + 1) (wM true (l.drop (n - j))) (wE true (l.drop (n - j))) p.x w' h HR.out (eb.out true)
      have D1 := Hd.mk hd1
      have D2 := Hd.mk hd2
      obtain ⟨W2, hW2, z1, z2, z3⟩ : ∃ W2, (wr.alloc (.cells #[.float .f64 p.x, .bool kb] 160)) = W2 ∧ Below wr.heap.size wr W2 ∧ W2.cell? ⟨wr.heap.size, 0, none⟩ = some (.float .f64 p.x) ∧ W2.cell? ⟨wr.heap.size, 1, none⟩ = some (.bool kb) := ⟨_, rfl, (Below.refl _ _).alloc (Nat.le_refl _) _, by unfold World.alloc; simp [World.cell?, Array.getElem?_push], by unfold World.alloc; simp [World.cell?, Array.getElem?_push]⟩
      have F1 := Hd.mk (G1.out.below z1)
      have F2 := Hd.mk (G2.out.below z1)
      have F3 := Hd.mk (G3.out.trans (z1.mono (by omega)))
      have hws2 : w1.heap.size ≤ W2.heap.size := F3.out.size
      have HW2 := Hd.mk hW2
      generalize p.x = x at *
      clear hW2 k1 k2 hmem hix ha hl2 c1 c2 z1 G1 G2 G3 hd1 hd2 EB hlen eb hlt
      cases kb
      · go_wp2_with fail
        (try rw [HW2.out])
        refine (HTp.out _ F1.out).mono ?_; rintro e w3 ⟨rfl, hb, ho⟩
        have J1 := Hd.mk hb
        have J2 := Hd.mk (F2.out.only ho (by omega))
        have J3 := Hd.mk (ho.below F3.out (Nat.le_refl _) hws2)
        clear hb ho
        go_wp2_with fail
        refine ⟨⟨j + 1, by omega, by go_num, ⟨?_⟩, ⟨?_⟩, J3⟩, by simp [intOf]; omega⟩
        · have h1 := D1.out.1
          have h2 := D1.out.2
          first | rw [if_pos rfl] at h1 h2 | rw [if_pos trivial] at h1 h2
          rw [h1, h2]; exact J1.out
        · have h1 := D2.out.1
          have h2 := D2.out.2
          rw [if_neg (by decide)] at h1 h2
          rw [h1, h2]; exact J2.out
      · go_wp2_with fail
        (try rw [HW2.out])
        refine (HTq.out _ F2.out).mono ?_; rintro e w3 ⟨rfl, hb, ho⟩
        have J1 := Hd.mk hb
        have J2 := Hd.mk (F1.out.only ho (by omega))
        have J3 := Hd.mk (ho.below F3.out (by omega) hws2)
        clear hb ho
        go_wp2_with fail
        refine ⟨⟨j + 1, by omega, by go_num, ⟨?_⟩, ⟨?_⟩, J3⟩, by simp [intOf]; omega⟩
        · have h1 := D1.out.1
          have h2 := D1.out.2
          rw [if_neg (by decide)] at h1 h2
          rw [h1, h2]; exact J2.out
        · have h1 := D2.out.1
          have h2 := D2.out.2
          first | rw [if_pos rfl] at h1 h2 | rw [if_pos trivial] at h1 h2
          rw [h1, h2]; exact J1.out
    · obtain rfl : n = j := by omega
      have hge : ¬ (n : Int) < n := by omega
      rw [Nat.sub_self, List.drop_zero] at G1 G2
      have M1 := wM_bd HP.out false l HM.out
      have M2 := wM_bd HP.out true l HM.out
      have E1 := wE_bd HP.out false l HM.out
      have E2 := wE_bd HP.out true l HM.out
      rw [HN.out] at M1 M2 E1 E2
      have HQt := Hd.mk (quotient_any w1.heap.size w1.heap.size _ _ (w1.heap.size + 1) _ _ wr G1.out G2.out ⟨Nat.le_refl _, by omega⟩ (by omega) M1.1 M2.1 (Nat.le_trans (bl_le M1.2) (by omega)) (Nat.le_trans (bl_le M2.2) (by omega)) (by omega) (by omega))
      rw [HQ.out] at HQt
      have FN := Hd.mk (fxNumber_any R QF.out.1)
      have e0 := feq0 R QF.out.1 QF.out.2.1
      have hrk : rk R = mg R := rk_of_pos QF.out.2.2
      rw [hrk] at e0
      clear M1 M2 E1 E2 hlt HP HM QF hrk
      by_cases hz : mg R = 0
      · have e1 : decide ((mg R : Int) = 0) = true := by simp [hz]
        rw [e1] at e0
        have hv := HA.out
        rw [if_pos (Or.inl hz)] at hv
        subst hv
        clear hz e1
        go_wp2_with fail
        refine HQt.out.mono ?_; rintro e w3 ⟨rfl, hb⟩
        have HB3 := Hd.mk (HB.out.trans ((G3.out.trans (hb.mono (Nat.le_refl _))).mono HB.out.size))
        clear hb
        go_wp2_with fail
        go_ret2
        exact ⟨rfl, HB3.out⟩
      · have e1 : decide ((mg R : Int) = 0) = false := by simp; omega
        rw [e1] at e0
        cases hf : fin R
        · have hv := HA.out
          rw [if_pos (Or.inr hf)] at hv
          subst hv
          rw [hf] at FN
          clear hz e1 hf
          go_wp2_with fail
          refine HQt.out.mono ?_; rintro e w3 ⟨rfl, hb⟩
          have HB3 := Hd.mk (HB.out.trans ((G3.out.trans (hb.mono (Nat.le_refl _))).mono HB.out.size))
          clear hb
          go_wp2_with fail
          refine (FN.out _).mono ?_; rintro e w' ⟨rfl, rfl⟩
          go_wp2_with fail
          go_ret2
          exact ⟨rfl, HB3.out⟩
        · have hv := HA.out
          rw [if_neg (by simp [hz, hf])] at hv
          subst hv
          rw [hf] at FN
          clear hz e1 hf
          go_wp2_with fail
          refine HQt.out.mono ?_; rintro e w3 ⟨rfl, hb⟩
          have HB3 := Hd.mk (HB.out.trans ((G3.out.trans (hb.mono (Nat.le_refl _))).mono HB.out.size))
          clear hb
          go_wp2_with fail
          refine (FN.out _).mono ?_; rintro e w' ⟨rfl, rfl⟩
          go_wp2_with fail
          go_ret2
          exact ⟨rfl, HB3.out⟩

end Go.Proofs.YteikihidblcljaaGreat
