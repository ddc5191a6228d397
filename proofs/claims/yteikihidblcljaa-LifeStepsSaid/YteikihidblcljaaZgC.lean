/- The walk of life's Pass. -/
import Derived.Test.YteikihidblcljaaZfC
namespace Go.Proofs.Yteikihidblcljaa
open Go.RowKit
set_option linter.unusedSimpArgs false
set_option linter.unusedVariables false

theorem LBox.setD {w : World} {b ba : Nat} {a : Option Addr} {n c : Nat} {cur day : Int} (h : LBox w b ba a n c cur day) (d : Int) : LBox (w.setCell ⟨b, 3, none⟩ (.int .i64 d)) b ba a n c cur d := by
  unfold LBox at *
  unfold World.setCell
  simp only [Array.getElem?_modify, h]
  simp
theorem LBox.setL {w : World} {b ba : Nat} {a : Option Addr} {n c : Nat} {cur day : Int} (h : LBox w b ba a n c cur day) (a' : Option Addr) (n' c' : Nat) : LBox (w.setCell ⟨b, 1, none⟩ (.slice a' n' c')) b ba a' n' c' cur day := by
  unfold LBox at *
  unfold World.setCell
  simp only [Array.getElem?_modify, h]
  simp
/-- What Pass returns. -/
def PassRet (L : List Fw) (base b : Nat) (z cur day n : Int) (ba : Nat) (a : Option Addr) (c : Nat) (w : World) (e : Ending) (w' : World) : Prop :=
  (isDy n = false ∧ e = .returned (.tuple #[.slice none 0 0, .int .i64 51]) ∧ w' = w) ∨
  (isDy n = true ∧ n < day ∧ e = .returned (.tuple #[.slice none 0 0, .int .i64 240]) ∧ w' = w) ∨
  (isDy n = true ∧ day ≤ n ∧ (∃ ap, e = .returned (.tuple #[.slice ap (paidF L n).length (paidF L n).length, .int .i64 0]) ∧ FrRet (paidF L n) w ap w') ∧ Led w' base b (stayF L n) (z + paidZ L n) cur n ba a c ∧ Frm (fun k => k = b ∨ k = ba ∨ (Value.slice a L.length c).ownBlock = some k) w w')
theorem filter_wf {L : List Fw} (hw : ∀ k, F64 (L.getD k fw0).x) (p : Fw → Bool) (k : Nat) : F64 ((L.filter p).getD k fw0).x := by
  have h : ∀ f, f ∈ L → F64 f.x := (all_F fun f => F64 f.x).1 fun i _ => hw i
  by_cases hk : k < (L.filter p).length
  · rw [getD_F hk]
    exact h _ (List.mem_filter.1 (List.getElem_mem hk)).1
  · rw [List.getD_eq_getElem?_getD, List.getElem?_eq_none (by omega)]; exact ⟨by decide⟩
theorem filter_rg {L : List Fw} (hr : ∀ k, (-9223372036854775808 ≤ (L.getD k fw0).d ∧ (L.getD k fw0).d ≤ 9223372036854775807) ∧ (-9223372036854775808 ≤ (L.getD k fw0).c ∧ (L.getD k fw0).c ≤ 9223372036854775807)) (p : Fw → Bool) (k : Nat) :
    (-9223372036854775808 ≤ ((L.filter p).getD k fw0).d ∧ ((L.filter p).getD k fw0).d ≤ 9223372036854775807) ∧ (-9223372036854775808 ≤ ((L.filter p).getD k fw0).c ∧ ((L.filter p).getD k fw0).c ≤ 9223372036854775807) := by
  have h : ∀ f, f ∈ L → (-9223372036854775808 ≤ f.d ∧ f.d ≤ 9223372036854775807) ∧ (-9223372036854775808 ≤ f.c ∧ f.c ≤ 9223372036854775807) := (all_F fun f => (-9223372036854775808 ≤ f.d ∧ f.d ≤ 9223372036854775807) ∧ (-9223372036854775808 ≤ f.c ∧ f.c ≤ 9223372036854775807)).1 fun i _ => hr i
  by_cases hk : k < (L.filter p).length
  · rw [getD_F hk]
    exact h _ (List.mem_filter.1 (List.getElem_mem hk)).1
  · rw [List.getD_eq_getElem?_getD, List.getElem?_eq_none (by omega)]; simp [fw0]
theorem FwsOk.filter {L : List Fw} (h : FwsOk L) (p : Fw → Bool) : FwsOk (L.filter p) := ⟨filter_wf h.wf p, filter_rg h.rg p, Nat.le_trans (List.length_filter_le _ _) h.len⟩

theorem paidF_len (L : List Fw) (n : Int) (k : Nat) : (paidF (L.take k) n).length ≤ k := by
  have h1 : (paidF (L.take k) n).length ≤ (L.take k).length := List.length_filter_le _ _
  rw [List.length_take] at h1
  omega
theorem PsMid.drew {w w5 : World} {b ba g c : Nat} {L : List Fw} {z cur n : Int} {k : Nat} {ap : Option Addr} {cp : Nat} (h : PsMid w w5 b ba g c L z cur n k ap cp) : PsMid w w5.drew b ba g c L z cur n k ap cp :=
  ⟨h.row.same rfl, h.acc.same rfl, h.pay, h.box.same rfl, h.frm.below ((Below.refl _ _).drew)⟩
theorem cell_past {W w5 : World} {o : Obj} {row : Option Nat} {p : Addr} {v : Value} (hg : (W.alloc o).grownBy w5 row) (hr : row ≠ some p.block) (h : W.cell? p = some v) : w5.cell? p = some v := by
  have hlt := World.block_lt_of_cell? _ _ h
  have hb : Below W.heap.size W (W.alloc o) := (Below.refl _ _).alloc (Nat.le_refl _) o
  rw [hg.cell_far p (Nat.lt_of_lt_of_le hlt hb.size) (fun e => hr e.symm), hb.cell hlt]
  exact h

theorem wsum_drop {L : List Fw} {n : Int} : paidF (L.take L.length) n = paidF L n ∧ stayF (L.take L.length) n = stayF L n ∧ paidZ (L.take L.length) n = paidZ L n := by
  rw [List.take_of_length_le (Nat.le_refl _)]
  exact ⟨rfl, rfl, rfl⟩
theorem PsSt.done {w wr : World} {base b ba g c : Nat} {L : List Fw} {z cur n : Int} {ap : Option Addr} {cp : Nat} (h : PsSt w wr b ba g c L z cur n L.length ap cp) (ne : PsNe w b ba g) (hk : FwsOk L) (hb1 : base ≤ b) (hb2 : base ≤ ba) (hb3 : base ≤ g) :
    Led (wr.setCell ⟨b, 1, none⟩ (.slice (some ⟨g, 0, none⟩) (stayF (L.take L.length) n).length c)) base b (stayF L n) (z + paidZ L n) cur n ba (some ⟨g, 0, none⟩) c ∧
    FrRet (paidF L n) w ap (wr.setCell ⟨b, 1, none⟩ (.slice (some ⟨g, 0, none⟩) (stayF (L.take L.length) n).length c)) ∧
    Frm (LdS b ba g) w (wr.setCell ⟨b, 1, none⟩ (.slice (some ⟨g, 0, none⟩) (stayF (L.take L.length) n).length c)) ∧
    ((ap = none ∧ (paidF (L.take L.length) n).length = 0 ∧ cp = 0) ∨ ∃ p, ap = some p ∧ (paidF (L.take L.length) n).length ≤ cp ∧ cp ≤ 9223372036854775807) := by
  obtain ⟨e1, e2, e3⟩ := wsum_drop (L := L) (n := n)
  have hp := h.pay
  have ha := h.acc
  rw [e1] at hp ⊢
  rw [e3] at ha
  rw [e2]
  have hB : ∀ j, j ≠ b → (wr.setCell ⟨b, 1, none⟩ (.slice (some ⟨g, 0, none⟩) (stayF L n).length c)).heap[j]? = wr.heap[j]? := fun j hj => Below.heap_setCell _ _ _ _ hj
  have hop : (wr.setCell ⟨b, 1, none⟩ (.slice (some ⟨g, 0, none⟩) (stayF L n).length c)).ownsRow w.heap.size 74 3 (.slice ap (paidF L n).length cp) (paidF L n).length (flV (paidF L n)) := ownsRow_setCell_below hp (a := ⟨b, 1, none⟩) ne.l1 _
  have hlen : (paidF L n).length ≤ 4096 := Nat.le_trans (List.length_filter_le _ _) hk.len
  have hpk : FwsOk (paidF L n) := hk.filter _
  refine ⟨⟨h.box.setL _ _ _, ha.same (hB ba ne.n1), (h.row.same (hB g ne.n2)).own hb3, hb1, hb2, ne.n1, fun k hk => ?_⟩, ⟨ownsRow_flws hop rfl hpk.wf hpk.rg (by omega), ?_⟩, h.frm.set 1 _ (Or.inl rfl), ?_⟩
  · obtain rfl : g = k := by simpa [Value.ownBlock] using hk
    exact ⟨ne.n2, ne.n3⟩
  · by_cases h0 : (paidF L n).length = 0
    · exact Or.inl h0
    · obtain ⟨g2, cap2, e, hb2, hrow⟩ := FlRow.of_own hop rfl hpk.wf hpk.rg (fun e => h0 (by rw [e]; rfl))
      simp at e
      exact Or.inr ⟨g2, cap2, by rw [e.1], hb2, hrow⟩
  · rcases hp.2 with ⟨e, h0⟩ | ⟨g', cap, cur', e, _, _, hnc, hcm, _⟩
    · simp at e
      exact Or.inl ⟨e.1, h0, e.2.2⟩
    · simp at e
      obtain ⟨rfl, rfl⟩ := e
      exact Or.inr ⟨_, rfl, hnc, Nat.le_trans hcm (by unfold maxLen; decide)⟩

set_option maxHeartbeats 12800000 in
set_option maxRecDepth 100000 in
theorem lifePass_some {base b : Nat} {L : List Fw} {z cur day : Int} {ba g c : Nat} (n : Int) (w : World) (h : Led w base b L z cur day ba (some ⟨g, 0, none⟩) c) (hk : FwsOk L) (hfn : ∀ k, k < L.length → fin (L.getD k fw0).x = true) :
    Calls Try.prog 35 #[.pointer (some ⟨b, 0, none⟩), .int .i64 n] w (PassRet L base b z cur day n ba (some ⟨g, 0, none⟩) c w) := by
  have HI := Hd.mk (lifeIs_any n)
  have HR : Hd (∀ e w', ((isDy n = false ∧ e = .returned (.tuple #[.slice none 0 0, .int .i64 51]) ∧ w' = w) ∨
    (isDy n = true ∧ n < day ∧ e = .returned (.tuple #[.slice none 0 0, .int .i64 240]) ∧ w' = w) ∨
    (isDy n = true ∧ day ≤ n ∧ (∃ ap, e = .returned (.tuple #[.slice ap (paidF L n).length (paidF L n).length, .int .i64 0]) ∧ FrRet (paidF L n) w ap w') ∧ Led w' base b (stayF L n) (z + paidZ L n) cur n ba (some ⟨g, 0, none⟩) c ∧ Frm (fun k => k = b ∨ k = ba ∨ (Value.slice (some ⟨g, 0, none⟩) L.length c).ownBlock = some k) w w')) → PassRet L base b z cur day n ba (some ⟨g, 0, none⟩) c w e w') := ⟨fun e w' h => h⟩
  obtain ⟨x0, x1, x2, x3⟩ := h.box.cell
  have HL := Hd.mk h
  have HK := Hd.mk hk
  have HFn := Hd.mk hfn
  have hown := h.own
  have hgl : g < w.heap.size := (h.own.lt g rfl).2
  have hgb : base ≤ g := (h.own.lt g rfl).1
  have ne : PsNe w b ba g := ⟨h.ne, (h.ng g rfl).1, (h.ng g rfl).2, h.box.lt, h.acc.lt, hgl⟩
  have NE := Hd.mk ne
  have HGB := Hd.mk hgb
  have h4k := hk.len
  have r0 := PasR.begin h.own n
  have hle := r0.le
  have hcm : c ≤ 9223372036854775807 := Nat.le_trans r0.cm (by unfold maxLen; decide)
  have fz := h.box.frozen
  obtain ⟨i0, hi, hz0, hz1, hz2⟩ := info_partsF
  obtain ⟨N, hN⟩ : ∃ N, L.length = N := ⟨_, rfl⟩
  have HN := Hd.mk hN
  cases hd : isDy n
  · rw [hd] at HI
    have HE := Hd.mk hd
    clear h hk hfn hown r0 hd
    go_enter Try.func35, Try.ntmps35
    go_wp2_with fail
    refine (HI.out _).mono ?_; rintro e w1 ⟨rfl, rfl⟩
    go_wp2_with fail
    exact bodyPost_ret (v := .tuple #[.slice none 0 0, .int .i64 51]) (by simp [results, Try.results35, go_sem]) rfl (HR.out _ _ (Or.inl ⟨HE.out, rfl, rfl⟩))
  rw [hd] at HI
  have HE := Hd.mk hd
  by_cases hp : n < day
  · have d1 := decide_eq_true hp
    have HP := Hd.mk hp
    clear h hk hfn hown r0 hd hp
    go_enter Try.func35, Try.ntmps35
    go_wp2_with fail
    refine (HI.out _).mono ?_; rintro e w1 ⟨rfl, rfl⟩
    go_wp2_with fail
    exact bodyPost_ret (v := .tuple #[.slice none 0 0, .int .i64 240]) (by simp [results, Try.results35, go_sem]) rfl (HR.out _ _ (Or.inr (Or.inl ⟨HE.out, HP.out, rfl, rfl⟩)))
  have d1 := decide_eq_false hp
  have HP : Hd (day ≤ n) := ⟨by omega⟩
  have hB : ∀ j, j ≠ b → (w.setCell ⟨b, 3, none⟩ (.int .i64 n)).heap[j]? = w.heap[j]? := fun j hj => Below.heap_setCell _ _ _ _ hj
  have ST0 : Hd (PsSt w (w.setCell ⟨b, 3, none⟩ (.int .i64 n)) b ba g c L z cur n 0 none 0) := ⟨⟨r0.same (hB g ne.n2), (by
      have : z + paidZ (L.take 0) n = z := by simp [paidZ, paidF, zS]
      rw [this]; exact h.acc.same (hB ba ne.n1)), (by simpa [flV, paidF] using World.ownsRow_nil (w.setCell ⟨b, 3, none⟩ (.int .i64 n)) w.heap.size 74 3), h.box.setD n, (Frm.refl _ w).set 3 _ (Or.inl rfl)⟩⟩
  have y1 : (w.setCell ⟨b, 3, none⟩ (.int .i64 n)).cell? ⟨b, 1, none⟩ = some (.slice (some ⟨g, 0, none⟩) N c) := by
    have := ST0.out.box.cell.2.1
    rw [hN] at this; exact this
  rw [hN] at x1 hle h4k
  clear h hk hfn hown r0 hd hp hB ne hgl hgb hN
  go_enter Try.func35, Try.ntmps35
  go_wp2_with fail
  refine (HI.out _).mono ?_; rintro e w1 ⟨rfl, rfl⟩
  go_wp2_with fail
  clear y1 x0 x1 x2 x3 fz
  generalize w.setCell ⟨b, 3, none⟩ (.int .i64 n) = wb at *
  go_loopw [6, 7, 33] (fun pv lv iv wr => ∃ (k : Nat) (ap : Option Addr) (cp : Nat), k ≤ N ∧ iv = .int .i64 k ∧ pv = .slice ap (paidF (L.take k) n).length cp ∧ lv = .slice (some ⟨g, 0, none⟩) (stayF (L.take k) n).length c ∧ Hd (PsSt w wr b ba g c L z cur n k ap cp)) (fun _ _ iv _ => N - (intOf iv).toNat)
  case atStart => exact ⟨0, none, 0, Nat.zero_le _, rfl, by simp [paidF], by simp [stayF], ST0⟩
  case round =>
    clear ST0
    obtain ⟨k, ap, cp, hkN, rfl, rfl, rfl, ST⟩ := hrel
    by_cases hlt : k < N
    · have hlt' : (k : Int) < N := by omega
      have k0 : (0 : Int) ≤ k := by omega
      have hkL : k < L.length := by rw [HN.out]; exact hlt
      have HKL := Hd.mk hkL
      have ci := ST.out.row.cell hkL
      have hbx := ST.out.box.cell.1
      have hfn := HFn.out k hkL
      have hwf := HK.out.wf k
      have HSk := Hd.mk fun (h : (L.getD k fw0).d < n) => (ST.out.row.skip hkL h).2
      have hpl := paidF_len L n k
      have hsl := stayF_len L n k
      have hpy : Hd (∀ j, (Value.slice ap (paidF (L.take k) n).length cp).ownBlock = some j → j < wr.heap.size) := ⟨fun j h => (ST.out.pay.lt j h).2⟩
      obtain ⟨f, hf⟩ : ∃ f, L.getD k fw0 = f := ⟨_, rfl⟩
      have HF := Hd.mk hf
      rw [hf] at ci hfn hwf HSk
      obtain ⟨fd, fx, fc⟩ := f
      dsimp only at ci hfn hwf HSk
      obtain ⟨c1, c2, c3⟩ := ci
      have hup := flagB_fin fx hfn
      have HA := Hd.mk fun Z w' h => accAdd_any ba Z false false fx w' h hwf
      rw [hup.1, hup.2] at HA
      obtain ⟨W, hW, b1, q0, q1, q2, _⟩ := box_flow wr fd fx fc
      have HWW := Hd.mk hW
      have ST1 := Hd.mk (ST.out.below b1)
      have hws : Hd (W.heap.size = wr.heap.size + 1) := ⟨by rw [← hW]; simp⟩
      clear b1 hW hlt hf hfn hwf hup hkL
      by_cases hd : fd < n
      · have hd' := decide_eq_true hd
        have HD : Hd ((L.getD k fw0).d < n) := ⟨by rw [HF.out]; exact hd⟩
        have hskl := HSk.out hd
        clear hd HSk
        go_upto_region 12 with fail
        rw [HWW.out]
        have HMx : Hd ((paidF (L.take k) n).length + 1 ≤ maxLen ∧ ((paidF (L.take k) n).length + 1) * 24 ≤ 140737488355328) := ⟨by unfold maxLen; omega, by omega⟩
        have hww : w.heap.size ≤ W.heap.size := ST1.out.frm.bel.size
        go_wp2_with (at_builtin; go_must (refine wpList_append_own _ rfl (.tmp 41) (.tmp 43) 67 rfl w.heap.size 74 i0 (.agg #[.int .i64 0, .float .f64 0, .int .i64 0]) 3 24 Try.underlying67 hi hz0 hz1 hz2 rfl (by decide) (.slice ap (paidF (L.take k) n).length cp) (paidF (L.take k) n).length (flV (paidF (L.take k) n)) rfl (ST1.out.pay.alloc _) ⟨W.heap.size, 0, none⟩ 1 1 [.int .i64 fd, .float .f64 fx, .int .i64 fc] rfl rfl (by
            intro j u hj
            match j, hj with
            | 0, hj => simp at hj; subst hj; simp [Addr.add]
            | 1, hj => simp at hj; subst hj; simp [Addr.add]
            | 2, hj => simp at hj; subst hj; simp [Addr.add]) (by intro u hu; simp at hu; rcases hu with rfl | rfl | rfl <;> rfl) HMx.out.1 HMx.out.2 (by simp; omega) ?_))
        intro v' w5 ho2 hg2 he2
        have q1' := cell_past (p := ⟨wr.heap.size, 1, none⟩) hg2 (fun e => absurd (hpy.out _ e) (by simp)) q1
        obtain ⟨a', cp', rfl, hmid⟩ := ST1.out.mid NE.out HKL.out HD.out _ (by rw [HF.out]; exact ho2) hg2
        have MD := Hd.mk hmid.drew
        have p0 := hmid.box.cell.1
        clear ho2 hg2 he2 hmid q0 q1 q2 hbx
        go_upto_region 13 with fail
        have y0 : w5.drew.cell? ⟨b, 0, none⟩ = _ := p0
        have y1 : w5.drew.cell? ⟨wr.heap.size, 1, none⟩ = _ := q1'
        refine wp_region_still_tail 7 (by kernel_rfl) (by kernel_rfl) ?_
        simp only [List.take_succ_cons, List.take_zero, List.drop_succ_cons, List.drop_zero]
        change wpStill _ _ w5.drew _ _ _
        iterate 7 still_step
        refine wpStill_nil ?_
        change wpList _ _ _ _ _ w5.drew
        go_wp2_with fail
        refine (HA.out _ _ MD.out.acc).mono ?_; rintro e w6 ⟨rfl, ha, ho⟩
        have ST6 := Hd.mk (MD.out.next NE.out HKL.out HD.out (by rw [HF.out]; exact ha) ho)
        clear ha ho y0 y1 p0 q1'
        go_wp2_with fail
        exact ⟨⟨k + 1, a', cp', by omega, by go_num, rfl, by rw [hskl], ST6⟩, by simp [intOf]; omega⟩
      · have hd' := decide_eq_false hd
        have HD : Hd (¬ (L.getD k fw0).d < n) := ⟨by rw [HF.out]; exact hd⟩
        clear hd HSk
        go_upto_region 14 with fail
        rw [HWW.out]
        have ST2 := Hd.mk fun o => ST1.out.below ((Below.refl _ _).alloc (Nat.le_refl _) o)
        go_wp2_with (at_builtin; go_must (refine wpList_pass_put rfl (.tmp 53) (.tmp 55) rfl (ST2.out _).row HKL.out HD.out rfl ⟨W.heap.size, 0, none⟩ rfl (by
            rw [HF.out]
            intro j u hj
            match j, hj with
            | 0, hj => simp at hj; subst hj; simp [Addr.add]
            | 1, hj => simp at hj; subst hj; simp [Addr.add]
            | 2, hj => simp at hj; subst hj; simp [Addr.add]) ?_))
        intro w4 hr hg
        obtain ⟨s1, s2⟩ := (ST2.out _).stay NE.out HKL.out (Int.not_lt.2 HD.out) hr hg
        have ST6 := Hd.mk s1
        clear s1 hr hg q0 q1 q2 hbx
        go_wp2_with fail
        exact ⟨⟨k + 1, ap, cp, by omega, by go_num, by rw [s2], rfl, ST6⟩, by simp [intOf]; omega⟩
    · obtain rfl : N = k := by omega
      have hge : ¬ (N : Int) < N := by omega
      have hbx := ST.out.box.cell.2.1
      have fz := ST.out.box.frozen
      have HEND := Hd.mk (show _ from (by rw [← HN.out] at ST; exact ST.out.done NE.out HK.out HL.out.bb HL.out.bba HGB.out))
      rw [HN.out] at HEND
      generalize (stayF (L.take N) n).length = sl at *
      generalize hpl : (paidF (L.take N) n).length = pl at *
      have HPl : Hd (pl = (paidF L n).length) := ⟨by rw [← hpl, List.take_of_length_le (by rw [HN.out]; exact Nat.le_refl _)]⟩
      rcases HEND.out.2.2.2 with ⟨rfl, rfl, rfl⟩ | ⟨p, rfl, hp1, hp2⟩
      · go_wp2_with fail
        refine (clipF_none _).mono ?_; rintro e w2 ⟨rfl, rfl⟩
        go_wp2_with fail
        exact bodyPost_ret (v := .tuple #[.slice none 0 0, .int .i64 0]) (by simp [results, Try.results35, go_sem]) rfl (HR.out _ _ (Or.inr (Or.inr ⟨HE.out, HP.out, ⟨none, by rw [← HPl.out], HEND.out.2.1⟩, HEND.out.1, ⟨HEND.out.2.2.1.bel, fun k h1 h2 => HEND.out.2.2.1.block k h1 fun h3 => h2 (by rcases h3 with h3 | h3 | h3; exact Or.inl h3; exact Or.inr (Or.inl h3); exact Or.inr (Or.inr (by rw [h3]; rfl)))⟩⟩)))
      · go_wp2_with fail
        refine (clipF_any p pl cp hp1 hp2 _).mono ?_; rintro e w2 ⟨rfl, rfl⟩
        go_wp2_with fail
        exact bodyPost_ret (v := .tuple #[.slice (some p) pl pl, .int .i64 0]) (by simp [results, Try.results35, go_sem]) rfl (HR.out _ _ (Or.inr (Or.inr ⟨HE.out, HP.out, ⟨some p, by rw [← HPl.out], HEND.out.2.1⟩, HEND.out.1, ⟨HEND.out.2.2.1.bel, fun k h1 h2 => HEND.out.2.2.1.block k h1 fun h3 => h2 (by rcases h3 with h3 | h3 | h3; exact Or.inl h3; exact Or.inr (Or.inl h3); exact Or.inr (Or.inr (by rw [h3]; rfl)))⟩⟩)))

end Go.Proofs.Yteikihidblcljaa
