/- The walks of life's is, number, own. -/
import Derived.Test.YteikihidblcljaaCdC
import Derived.Test.YteikihidblcljaaM15
namespace Go.Proofs.Yteikihidblcljaa
open Go.RowKit
set_option linter.unusedSimpArgs false
set_option linter.unusedVariables false

/-- Is there such a day? -/
def isDy (n : Int) : Bool := decide (0 ≤ n ∧ n ≤ 109572)
set_option maxHeartbeats 800000 in
theorem lifeIs_any (n : Int) (w : World) :
    Calls Try.prog 91 #[.int .i64 n] w fun e w' => e = .returned (.bool (isDy n)) ∧ w = w' := by
  have H : Hd (isDy n = decide (0 ≤ n ∧ n ≤ 109572)) := ⟨rfl⟩
  by_cases h1 : 0 ≤ n
  · have H1 : Hd (isDy n = decide (n ≤ 109572)) := ⟨by rw [H.out]; simp [h1]⟩
    clear H
    have d1 : decide (n ≥ 0) = true := by simpa using h1
    clear h1
    go_enter Try.func91, Try.ntmps91
    go_wp2_with fail
    go_ret
    exact ⟨ret_bool H1.out.symm, rfl⟩
  · have H1 : Hd (false = isDy n) := ⟨by rw [H.out]; simp [h1]⟩
    clear H
    have d1 : decide (n ≥ 0) = false := by simpa using h1
    clear h1
    go_enter Try.func91, Try.ntmps91
    go_wp2_with fail
    go_ret
    exact ⟨ret_bool H1.out, rfl⟩
set_option maxHeartbeats 800000 in
theorem lifeNumber_any (x : Nat) (hx : F64 x) (w : World) :
    Calls Try.prog 96 #[.float .f64 x] w fun e w' => e = .returned (.bool (fin x)) ∧ w = w' := by
  have H := Hd.mk (cls_fin x)
  go_enter Try.func96, Try.ntmps96
  go_wp2_with (go_at_call 82; refine (class_any _ hx _).mono ?_; rintro e w' ⟨rfl, rfl⟩)
  go_ret
  exact ⟨ret_bool H.out, rfl⟩

/-- The flows in a currency. -/
def mineF (l : List Fw) (tc : Int) : List Fw := l.filter fun f => f.c == tc
theorem mineF_take (l : List Fw) (tc : Int) (k : Nat) (h : k < l.length) : mineF (l.take (k + 1)) tc = if (l.getD k fw0).c = tc then mineF (l.take k) tc ++ [l.getD k fw0] else mineF (l.take k) tc := by
  unfold mineF
  rw [take_snocF l k h, List.filter_append]
  by_cases e : (l.getD k fw0).c = tc
  · rw [if_pos e]
    have h1 : [l.getD k fw0].filter (fun f => f.c == tc) = [l.getD k fw0] := by rw [List.filter_cons_of_pos (by rw [beq_iff_eq]; exact e), List.filter_nil]
    rw [h1]
  · rw [if_neg e]
    have h1 : [l.getD k fw0].filter (fun f => f.c == tc) = [] := by rw [List.filter_cons_of_neg (by rw [beq_iff_eq]; exact e), List.filter_nil]
    rw [h1, List.append_nil]
theorem mineF_len (l : List Fw) (tc : Int) : (mineF l tc).length ≤ l.length := List.length_filter_le _ _
/-- Flows of a currency in a row of the call's own, or one lies ahead of a day. -/
def LOwnRet (l : List Fw) (tc dy : Int) (w : World) (e : Ending) (w' : World) : Prop :=
  (((∀ i, i < l.length → (l.getD i fw0).c = tc → dy ≤ (l.getD i fw0).d) ∧ ∃ a c, e = .returned (.tuple #[.slice a (mineF l tc).length c, .bool true]) ∧ w'.ownsRow w.heap.size 74 3 (.slice a (mineF l tc).length c) (mineF l tc).length (flV (mineF l tc))) ∨
   ((∃ i, i < l.length ∧ (l.getD i fw0).c = tc ∧ (l.getD i fw0).d < dy) ∧ e = .returned (.tuple #[.slice none 0 0, .bool false]))) ∧ Below w.heap.size w w'
theorem lown_step {B : Nat} {w wd w2 : World} {o : Obj} {v v' : Value} {n : Nat} {xs ys : List Value} (hb : Below w.heap.size w wd) (hB : B ≤ wd.heap.size) (hw : w.heap.size ≤ B) (ho : wd.ownsRow B 74 3 v n xs)
    (ho' : w2.ownsRow B 74 3 v' (n + 1) ys) (hg : (wd.alloc o).grownBy w2 v.ownBlock) : ∃ a c, v' = .slice a (n + 1) c ∧ w2.ownsRow B 74 3 (.slice a (n + 1) c) (n + 1) ys ∧ Below w.heap.size w w2 ∧ Below B wd w2 := by
  have hb1 : Below B wd w2 := ((Below.refl _ _).alloc hB o).grown hg (by simp; omega) fun k hk => (ho.lt k hk).1
  rcases ho'.2 with ⟨_, e⟩ | ⟨g, cap, cur, rfl, _⟩
  · omega
  · exact ⟨_, _, rfl, ho', hb.trans (hb1.mono hw), hb1⟩

set_option maxHeartbeats 3200000 in
set_option maxRecDepth 100000 in
theorem lifeOwn_any (ad : Option Addr) (l : List Fw) (c : Nat) (tc dy : Int) (w : World) (hl : Flws w ad l) (h4k : l.length ≤ 4096) :
    Calls Try.prog 92 #[.slice ad l.length c, .int .i64 tc, .int .i64 dy] w (LOwnRet l tc dy w) := by
  have HF := Hd.mk hl
  obtain ⟨n, hn⟩ : ∃ n, l.length = n := ⟨_, rfl⟩
  have HN := Hd.mk hn
  have HR : Hd (∀ e w', (((∀ i, i < n → (l.getD i fw0).c = tc → dy ≤ (l.getD i fw0).d) ∧ ∃ a c, e = .returned (.tuple #[.slice a (mineF l tc).length c, .bool true]) ∧ w'.ownsRow w.heap.size 74 3 (.slice a (mineF l tc).length c) (mineF l tc).length (flV (mineF l tc))) ∨ ((∃ i, i < n ∧ (l.getD i fw0).c = tc ∧ (l.getD i fw0).d < dy) ∧ e = .returned (.tuple #[.slice none 0 0, .bool false]))) ∧ Below w.heap.size w w' → LOwnRet l tc dy w e w') := ⟨fun e w' h => by unfold LOwnRet; rw [hn]; exact h⟩
  rw [hn] at h4k ⊢
  obtain ⟨i0, hi, hz0, hz1, hz2⟩ := info_parts info_flow
  clear hl hn
  go_enter Try.func92, Try.ntmps92
  go_wp2_with fail
  go_loopw [8, 13] (fun sv iv wr => ∃ (k : Nat) (a : Option Addr) (cp : Nat), k ≤ n ∧ iv = .int .i64 k ∧ sv = .slice a (mineF (l.take k) tc).length cp ∧ Hd (∀ i, i < k → (l.getD i fw0).c = tc → dy ≤ (l.getD i fw0).d) ∧ Hd (wr.ownsRow w.heap.size 74 3 (.slice a (mineF (l.take k) tc).length cp) (mineF (l.take k) tc).length (flV (mineF (l.take k) tc))) ∧ Hd (Below w.heap.size w wr)) (fun _ iv _ => n - (intOf iv).toNat)
  case atStart => exact ⟨0, none, 0, Nat.zero_le _, rfl, by simp [mineF], ⟨fun i h => by omega⟩, ⟨by simpa [flV, mineF] using World.ownsRow_nil _ _ _ _⟩, ⟨Below.refl _ _⟩⟩
  case round =>
    obtain ⟨k, a, cp, hk, rfl, rfl, HA, HO, HB⟩ := hrel
    by_cases hlt : k < n
    · have hlt' : (k : Int) < n := by omega
      have k0 : (0 : Int) ≤ k := by omega
      obtain ⟨bb, oo, rfl, c1, c2, c3⟩ := (HF.out.below HB.out).cell k (by rw [HN.out]; exact hlt)
      have e1 := mineF_take l tc k (by rw [HN.out]; exact hlt)
      have hlk : (mineF (l.take k) tc).length ≤ 4096 := by
        have h1 := mineF_len (l.take k) tc
        rw [List.length_take] at h1
        omega
      have HBd : Hd ((l.getD k fw0).c = tc → (l.getD k fw0).d < dy → ∃ i, i < n ∧ (l.getD i fw0).c = tc ∧ (l.getD i fw0).d < dy) := ⟨fun h1 h2 => ⟨k, hlt, h1, h2⟩⟩
      have HA2 : Hd (((l.getD k fw0).c = tc → dy ≤ (l.getD k fw0).d) → ∀ i, i < k + 1 → (l.getD i fw0).c = tc → dy ≤ (l.getD i fw0).d) := ⟨fun h i h1 h2 => by
        by_cases e : i = k
        · subst e; exact h h2
        · exact HA.out i (by omega) h2⟩
      generalize l.getD k fw0 = f at *
      obtain ⟨fd, fx, fc⟩ := f
      dsimp only at c1 c2 c3 e1 HBd HA2
      obtain ⟨W, hW, b1, q0, q1, q2, _⟩ := box_flow wr fd fx fc
      have HWW := Hd.mk hW
      have B1 := Hd.mk (HB.out.trans (b1.mono HB.out.size))
      have O1 : Hd (W.ownsRow w.heap.size 74 3 (.slice a (mineF (l.take k) tc).length cp) (mineF (l.take k) tc).length (flV (mineF (l.take k) tc))) := ⟨by rw [← hW]; exact HO.out.alloc _⟩
      have HLK := Hd.mk hlk
      clear b1 hW HB HO hlk HA
      by_cases hc : fc = tc
      · have d1 : (fc != tc) = false := by rw [bne_eq_false_iff_eq]; exact hc
        rw [if_pos hc] at e1
        by_cases hd : fd < dy
        · have HE := Hd.mk (HBd.out hc hd)
          have d2 := decide_eq_true hd
          clear hc hd e1 hlt HBd HA2
          generalize (mineF (l.take k) tc).length = N at *
          go_wp2_with fail
          (try rw [HWW.out])
          go_wp2_with fail
          exact bodyPost_ret (v := .tuple #[.slice none 0 0, .bool false]) (by simp [results, Try.results92, go_sem]) rfl (HR.out _ _ ⟨Or.inr ⟨HE.out, rfl⟩, B1.out⟩)
        · have d2 := decide_eq_false hd
          have HA3 := Hd.mk (HA2.out fun _ => by omega)
          have hl2 : (mineF (l.take (k + 1)) tc).length = (mineF (l.take k) tc).length + 1 := by rw [e1]; simp
          have hf : flV (mineF (l.take k) tc) ++ [.int .i64 fd, .float .f64 fx, .int .i64 fc] = flV (mineF (l.take (k + 1)) tc) := by rw [e1, flV_snoc]
          have HL2 := Hd.mk hl2
          have HFv := Hd.mk hf
          have HMx : Hd ((mineF (l.take k) tc).length + 1 ≤ maxLen ∧ ((mineF (l.take k) tc).length + 1) * 24 ≤ 140737488355328) := ⟨by have := HLK.out; unfold maxLen; omega, by have := HLK.out; omega⟩
          have hs1 : w.heap.size ≤ W.heap.size := B1.out.size
          clear hc hd e1 HBd HA2 hl2 hf HLK
          generalize hN : (mineF (l.take k) tc).length = N at *
          go_upto_region 8 with fail
          (try rw [HWW.out])
          go_wp2_with (at_builtin; refine wpList_append_own _ rfl (.tmp 25) (.tmp 27) 67 rfl w.heap.size 74 i0 (.agg #[.int .i64 0, .float .f64 0, .int .i64 0]) 3 24 Try.underlying67 hi hz0 hz1 hz2 rfl (by decide) (.slice a N cp) N (flV (mineF (l.take k) tc)) rfl (O1.out.alloc _) ⟨W.heap.size, 0, none⟩ 1 1 [.int .i64 fd, .float .f64 fx, .int .i64 fc] rfl rfl (by
            intro j u hj
            match j, hj with
            | 0, hj => simp at hj; subst hj; simp [Addr.add]
            | 1, hj => simp at hj; subst hj; simp [Addr.add]
            | 2, hj => simp at hj; subst hj; simp [Addr.add]) (by intro u hu; simp at hu; rcases hu with rfl | rfl | rfl <;> rfl) HMx.out.1 HMx.out.2 (by simp; omega) ?_)
          intro v' w4 ho2 hg2 he2
          obtain ⟨a', cp', rfl, ho3, hb3, _⟩ := lown_step B1.out hs1 (Nat.le_refl _) O1.out ho2 hg2
          rw [HFv.out] at ho3
          have HO3 := Hd.mk ho3
          have HB3 := Hd.mk hb3
          clear ho2 hg2 he2 ho3 hb3 O1 B1 q0 q1 q2
          go_wp2_with fail
          exact ⟨⟨k + 1, a', cp', by omega, by go_num, by rw [HL2.out], HA3, ⟨by rw [HL2.out]; exact HO3.out⟩, HB3⟩, by simp [intOf]; omega⟩
      · have d1 : (fc != tc) = true := by rw [bne_iff_ne]; exact hc
        rw [if_neg hc] at e1
        have HA3 := Hd.mk (HA2.out fun h => absurd h hc)
        have HE1 := Hd.mk e1
        clear hc e1 HBd HA2 hlt
        generalize hN : (mineF (l.take k) tc).length = N at *
        go_wp2_with fail
        (try rw [HWW.out])
        go_wp2_with fail
        exact ⟨⟨k + 1, a, cp, by omega, by go_num, by rw [HE1.out, hN], HA3, ⟨by rw [HE1.out, hN]; exact O1.out⟩, B1⟩, by simp [intOf]; omega⟩
    · have hge : ¬ (k : Int) < n := by omega
      obtain rfl : n = k := by omega
      have HTk : Hd (l.take n = l) := ⟨List.take_of_length_le (by rw [HN.out]; omega)⟩
      rw [HTk.out] at HO ⊢
      clear hlt
      generalize hN : (mineF l tc).length = N at *
      go_wp2_with fail
      exact bodyPost_ret (v := .tuple #[.slice a N cp, .bool true]) (by simp [results, Try.results92, go_sem]) rfl (HR.out _ _ ⟨Or.inl ⟨HA.out, a, cp, rfl, HO.out⟩, HB.out⟩)

end Go.Proofs.Yteikihidblcljaa
