/- The walk of fx's Convert. -/
import Derived.Test.YteikihidblcljaaGreatCdC
import Derived.Test.YteikihidblcljaaGreatM15
import Derived.Test.YteikihidblcljaaGreatM3
namespace Go.Proofs.YteikihidblcljaaGreat
open Go.RowKit
set_option linter.unusedSimpArgs false
set_option linter.unusedVariables false

/-- What is wrong with one flow's conversion; the flow converted. -/
noncomputable def fcF (L : List Pr) (tc : Int) (f : Fw) : Int := if (crsT L f.c tc).2 ≠ 0 then (crsT L f.c tc).2 else if fin (fmul f.x (crsT L f.c tc).1) then 0 else 91
noncomputable def cvF (L : List Pr) (tc : Int) (f : Fw) : Fw := ⟨f.d, fmul f.x (crsT L f.c tc).1, tc⟩
noncomputable def feC (L : List Pr) (tc : Int) (l : List Fw) : Nat → Int
  | 0 => 0
  | n + 1 => if feC L tc l n ≠ 0 then feC L tc l n else fcF L tc (l.getD n fw0)
noncomputable def cvE (L : List Pr) (l : List Fw) (tc : Int) : Int := if bgF l tc ≠ 0 then bgF l tc else feC L tc l l.length
theorem feC_stays (L : List Pr) (tc : Int) (l : List Fw) (n : Nat) (h : feC L tc l n ≠ 0) : ∀ m, n ≤ m → feC L tc l m = feC L tc l n := by
  intro m hm
  induction m with
  | zero => obtain rfl : n = 0 := by omega
            rfl
  | succ m ih =>
    by_cases e : n = m + 1
    · rw [e]
    · have := ih (by omega)
      rw [feC, this, if_pos h]
theorem fres_mul {x y : Nat} (hx : F64 x) (hy : F64 y) (fx : fin x = true) (fy : fin y = true) (w : World) : fres .mul x y w = fmul x y := by
  have h := cn_fmul x y w hx hy
  rw [cn_of _ (nn_fin _ fx), cn_of _ (nn_fin _ fy)] at h
  have hn := (rk_fmul x y hx hy fx fy).2
  rw [← h] at hn
  rw [cn_of _ (by rw [nn_cn] at hn; exact hn)] at h
  exact h
theorem conv_step {w wd w2 : World} {o : Obj} {v v' : Value} {n : Nat} {xs ys : List Value} (hb : Below w.heap.size w wd) (ho : wd.ownsRow w.heap.size 70 3 v n xs)
    (ho' : w2.ownsRow w.heap.size 70 3 v' (n + 1) ys) (hg : (wd.alloc o).grownBy w2 v.ownBlock) : ∃ a c, v' = .slice a (n + 1) c ∧ w2.ownsRow w.heap.size 70 3 (.slice a (n + 1) c) (n + 1) ys ∧ Below w.heap.size w w2 := by
  have hb2 : Below w.heap.size w w2 := (hb.alloc hb.size o).grown hg (by have := hb.size; simp; omega) fun k hk => (ho.lt k hk).1
  rcases ho'.2 with ⟨_, e⟩ | ⟨g, cap, cur, rfl, _⟩
  · omega
  · exact ⟨_, _, rfl, ho', hb2⟩
/-- It returns flows of its own, or what is wrong. -/
def ConvRet (L : List Pr) (l : List Fw) (tc : Int) (w : World) (e : Ending) (w' : World) : Prop :=
  ((cvE L l tc = 0 ∧ ∃ a c, e = .returned (.tuple #[.slice a l.length c, .int .i64 0]) ∧ w'.ownsRow w.heap.size 70 3 (.slice a l.length c) l.length (flV (l.map (cvF L tc)))) ∨ (cvE L l tc ≠ 0 ∧ e = .returned (.tuple #[.slice none 0 0, .int .i64 (cvE L l tc)]))) ∧ Below w.heap.size w w'
theorem make_flow (n : Nat) (hn : n ≤ 4096) (w : World) :
    (Instr.makeSlice 23 (.int .i64 0) (.int .i64 (n : Int))).run Tryz.prog w = .ok (.slice (some ⟨w.heap.size, 0, none⟩) 0 n) (w.alloc (.cells (madeCells #[.int .i64 0, .float .f64 0, .int .i64 0] (n * 3)) 70)) := by
  obtain ⟨i, hi, hz, h1, h2⟩ := info_parts info_flow
  have := run_make (P := Tryz.prog) w 23 70 i _ Tryz.underlying23 hi hz .i64 .i64 0 n (Int.le_refl _) (by omega) (by rw [h2]; omega) (by omega)
  rw [h1] at this
  simp only [Int.toNat_zero, Int.toNat_natCast] at this
  exact this

set_option maxHeartbeats 6400000 in
set_option maxRecDepth 100000 in
theorem fxConvert_any (L : List Pr) (g : Good L) (tb : Nat) (ad : Option Addr) (l : List Fw) (c : Nat) (tc : Int) (w : World) (ht : TabIs w tb L) (hl : Flws w ad l) :
    Calls Tryz.prog 10 #[.pointer (some ⟨tb, 0, none⟩), .slice ad l.length c, .int .i64 tc] w (ConvRet L l tc w) := by
  have HBg := Hd.mk (fxBegin_any ad l c tc w hl)
  have HV : Hd (cvE L l tc = if bgF l tc ≠ 0 then bgF l tc else feC L tc l l.length) := ⟨rfl⟩
  have HOKF := Hd.mk (fun h : bgF l tc = 0 => chkF_ok (bgF_ok h).1)
  have HR : Hd (∀ e w', ((cvE L l tc = 0 ∧ ∃ a c, e = .returned (.tuple #[.slice a l.length c, .int .i64 0]) ∧ w'.ownsRow w.heap.size 70 3 (.slice a l.length c) l.length (flV (l.map (cvF L tc)))) ∨ (cvE L l tc ≠ 0 ∧ e = .returned (.tuple #[.slice none 0 0, .int .i64 (cvE L l tc)]))) ∧ Below w.heap.size w w' → ConvRet L l tc w e w') := ⟨fun e w' h => h⟩
  generalize cvE L l tc = V at *
  have HF := Hd.mk hl
  have HT := Hd.mk ht
  have G := Hd.mk g
  have hlen := hl.len
  obtain ⟨n, hn⟩ : ∃ n, l.length = n := ⟨_, rfl⟩
  rw [hn] at hlen HBg HV HOKF HR ⊢
  have HN := Hd.mk hn
  obtain ⟨i0, hi, hz0, hz1, hz2⟩ := info_parts info_flow
  clear hl ht hn g
  by_cases h0 : bgF l tc = 0
  rotate_left
  · have hv := HV.out
    rw [if_pos h0] at hv
    subst hv
    have d1 : (bgF l tc != 0) = true := by rw [bne_iff_ne]; exact h0
    have HE := Hd.mk h0
    generalize bgF l tc = E at *
    clear h0 HV
    go_enter Tryz.func10, Tryz.ntmps10
    go_wp2_with fail
    refine HBg.out.mono ?_; rintro e w1 ⟨rfl, hb⟩
    have HB := Hd.mk hb
    clear hb
    go_wp2_with fail
    exact bodyPost_ret (v := .tuple #[.slice none 0 0, .int .i64 E]) (by simp [results, Tryz.results10, go_sem]) rfl (HR.out _ _ ⟨Or.inr ⟨HE.out, rfl⟩, HB.out⟩)
  have HOK := Hd.mk (HOKF.out h0)
  have HV2 : Hd (V = feC L tc l n) := ⟨by rw [HV.out, if_neg (by omega)]⟩
  have h4k : n ≤ 4096 := by have := HOK.out.1; omega
  have hmk : ∀ w, (Instr.makeSlice 23 (.int .i64 0) (.int .i64 (n : Int))).run Tryz.prog w = .ok (.slice (some ⟨w.heap.size, 0, none⟩) 0 n) (w.alloc (.cells (madeCells #[.int .i64 0, .float .f64 0, .int .i64 0] (n * 3)) 70)) := fun w => make_flow n h4k w
  rw [h0] at HBg
  clear HV HOKF h0
  go_enter Tryz.func10, Tryz.ntmps10
  go_wp2_with fail
  refine HBg.out.mono ?_; rintro e w1 ⟨rfl, hb⟩
  have HB1 := Hd.mk hb
  clear hb
  have HO0 : Hd ((w1.alloc (.cells (madeCells #[.int .i64 0, .float .f64 0, .int .i64 0] (n * 3)) 70)).ownsRow w.heap.size 70 3 (.slice (some ⟨w1.heap.size, 0, none⟩) 0 n) 0 (flV [])) := ⟨World.ownsRow_made w1 _ n HB1.out.size (by unfold maxLen; omega) (size_madeCells _ _)⟩
  have HB0 : Hd (Below w.heap.size w (w1.alloc (.cells (madeCells #[.int .i64 0, .float .f64 0, .int .i64 0] (n * 3)) 70))) := ⟨HB1.out.alloc HB1.out.size _⟩
  go_wp2_with fail
  clear HB1 hmk
  generalize (w1.alloc (.cells (madeCells #[.int .i64 0, .float .f64 0, .int .i64 0] (n * 3)) 70)) = w2 at *
  go_loopw [9, 26] (fun sv iv wr => ∃ (k : Nat) (a : Option Addr) (cp : Nat), k ≤ n ∧ iv = .int .i64 k ∧ sv = .slice a k cp ∧ Hd (feC L tc l k = 0) ∧ Hd (wr.ownsRow w.heap.size 70 3 (.slice a k cp) k (flV ((l.take k).map (cvF L tc)))) ∧ Hd (Below w.heap.size w wr)) (fun _ iv _ => n - (intOf iv).toNat)
  case atStart => exact ⟨0, _, n, Nat.zero_le _, rfl, rfl, ⟨rfl⟩, HO0, HB0⟩
  case round =>
    clear HO0 HB0
    obtain ⟨k, a, cp, hk, rfl, rfl, HE, HO, HB⟩ := hrel
    by_cases hlt : k < n
    · have hlt' : (k : Int) < n := by omega
      have k0 : (0 : Int) ≤ k := by omega
      obtain ⟨bb, oo, rfl, c1, c2, c3⟩ := (HF.out.below HB.out).cell k (by rw [HN.out]; exact hlt)
      have hF := HF.out.wf k
      have hok := badF_ok (HOK.out.2 k hlt)
      have HFE : Hd (feC L tc l (k + 1) = fcF L tc (l.getD k fw0)) := ⟨by rw [feC, if_neg (by rw [HE.out]; decide)]⟩
      have HV3 : Hd (feC L tc l (k + 1) ≠ 0 → V = feC L tc l (k + 1)) := ⟨fun h => by
        have h2 := feC_stays L tc l (k + 1) h n (by omega)
        rw [HV2.out, h2]⟩
      have HTk : Hd (flV ((l.take (k + 1)).map (cvF L tc)) = flV ((l.take k).map (cvF L tc)) ++ [.int .i64 (l.getD k fw0).d, .float .f64 (fmul (l.getD k fw0).x (crsT L (l.getD k fw0).c tc).1), .int .i64 tc]) := ⟨by
        rw [take_snocF l k (by rw [HN.out]; omega), List.map_append, List.map_singleton, flV_snoc]; rfl⟩
      have HFF : Hd (fcF L tc (l.getD k fw0) = if (crsT L (l.getD k fw0).c tc).2 ≠ 0 then (crsT L (l.getD k fw0).c tc).2 else if fin (fmul (l.getD k fw0).x (crsT L (l.getD k fw0).c tc).1) then 0 else 91) := ⟨rfl⟩
      generalize hys : flV ((l.take (k + 1)).map (cvF L tc)) = ys at *
      have HYS := Hd.mk hys
      clear hys
      generalize flV ((l.take k).map (cvF L tc)) = xs at *
      rw [HFF.out] at HFE
      clear HFF
      generalize hE1 : feC L tc l (k + 1) = E1 at *
      have HEE := Hd.mk hE1
      clear hE1
      generalize hf : l.getD k fw0 = f at *
      obtain ⟨fd, fx, fc⟩ := f
      dsimp only at c1 c2 c3 hF hok HFE HTk
      have hCF := Hd.mk (crsT_F64 L fc tc)
      have hCn := Hd.mk (crsT_fin (L := L) (a := fc) (b := tc))
      obtain ⟨W, hW, b1, q0, q1, q2, _⟩ := box_flow wr fd fx fc
      have HWW := Hd.mk hW
      have B1 := Hd.mk (HB.out.trans (b1.mono HB.out.size))
      have O1 : Hd (W.ownsRow w.heap.size 70 3 (.slice a k cp) k xs) := ⟨by rw [← hW]; exact HO.out.alloc _⟩
      have HX := Hd.mk (cross_any L G.out tb fc tc W (HT.out.below B1.out))
      unfold CrsRet at HX
      generalize crsT L fc tc = Q at *
      obtain ⟨r1, r2⟩ := Q
      dsimp only at HX hCF hCn HFE HTk
      have hfin := Hd.mk hok.2.1
      have hwfx := Hd.mk hF
      clear b1 hW hlt hok hf hF HB HO
      go_wp2_with fail
      (try rw [HWW.out])
      refine HX.out.mono ?_; rintro e w3 ⟨rfl, hb⟩
      have B2 := Hd.mk (B1.out.trans (hb.mono B1.out.size))
      have O2 : Hd (w3.ownsRow w.heap.size 70 3 (.slice a k cp) k xs) := ⟨ownsRow_below O1.out hb⟩
      have t0 := cell_trP hb q0
      have t1 := cell_trP hb q1
      clear hb q0 q1 q2 O1
      by_cases hr : r2 = 0
      · subst hr
        have hM : ∀ w', fres .mul fx r1 w' = fmul fx r1 := fun w' => fres_mul hwfx.out hCF.out hfin.out (hCn.out rfl) w'
        have hPF := F64_fmul fx r1
        have HFE2 : Hd (E1 = if fin (fmul fx r1) then 0 else 91) := ⟨by rw [HFE.out, if_neg (by decide)]⟩
        have hw3 : w.heap.size ≤ w3.heap.size := B2.out.size
        generalize fmul fx r1 = P at *
        have HNu := Hd.mk (fxNumber_any P hPF)
        clear HFE hCF hCn hfin hwfx hPF
        cases hp : fin P
        · have he : E1 = 91 := by rw [HFE2.out, hp]; rfl
          have hv := HV3.out (by rw [he]; decide)
          rw [he] at hv
          subst hv
          rw [hp] at HNu
          clear HFE2 hp he HV2 HV3
          go_wp2_with fail
          refine (HNu.out _).mono ?_; rintro e w' ⟨rfl, rfl⟩
          go_wp2_with fail
          exact bodyPost_ret (v := .tuple #[.slice none 0 0, .int .i64 91]) (by simp [results, Tryz.results10, go_sem]) rfl (HR.out _ _ ⟨Or.inr ⟨by decide, rfl⟩, below_drewN B2.out _⟩)
        · have he : E1 = 0 := by rw [HFE2.out, hp]; rfl
          have HE0 := Hd.mk (HEE.out.trans he)
          rw [hp] at HNu
          have HMx : Hd (k + 1 ≤ maxLen ∧ (k + 1) * 24 ≤ 140737488355328) := ⟨by unfold maxLen; omega, by omega⟩
          clear HFE2 hp HV3 he HEE
          go_wp2_with fail
          refine (HNu.out _).mono ?_; rintro e w' ⟨rfl, rfl⟩
          go_upto_region 14 with fail
          have O5 : Hd ((w3.drewN (fcnt .mul fx r1)).ownsRow w.heap.size 70 3 (.slice a k cp) k xs) := ⟨O2.out⟩
          have B5 : Hd (Below w.heap.size w (w3.drewN (fcnt .mul fx r1))) := ⟨below_drewN B2.out _⟩
          have t0' : (w3.drewN (fcnt .mul fx r1)).cell? ⟨wr.heap.size, 0, none⟩ = some (.int .i64 fd) := t0
          have hwd : w.heap.size ≤ (w3.drewN (fcnt .mul fx r1)).heap.size := hw3
          clear hM O2 B2 B1 t0 t1 hw3
          generalize w3.drewN (fcnt .mul fx r1) = wd at *
          go_wp2_with (at_builtin; refine wpList_append_own _ rfl (.tmp 48) (.tmp 54) 23 rfl w.heap.size 70 i0 (.agg #[.int .i64 0, .float .f64 0, .int .i64 0]) 3 24 Tryz.underlying23 hi hz0 hz1 hz2 rfl (by decide) (.slice a k cp) k xs rfl (O5.out.alloc _) ⟨wd.heap.size, 0, none⟩ 1 1 [.int .i64 fd, .float .f64 P, .int .i64 tc] rfl rfl (by
            intro j u hj
            match j, hj with
            | 0, hj => simp at hj; subst hj; simp [Addr.add]
            | 1, hj => simp at hj; subst hj; simp [Addr.add]
            | 2, hj => simp at hj; subst hj; simp [Addr.add]) (by intro u hu; simp at hu; rcases hu with rfl | rfl | rfl <;> rfl) HMx.out.1 HMx.out.2 (by simp; omega) ?_)
          intro v' w4 ho2 hg2 he2
          obtain ⟨a', cp', rfl, ho3, hb3⟩ := conv_step B5.out O5.out ho2 hg2
          rw [← HTk.out, ← HYS.out] at ho3
          have HO3 := Hd.mk ho3
          have HB3 := Hd.mk hb3
          clear ho2 hg2 he2 ho3 hb3 O5 B5 t0'
          go_wp2_with fail
          exact ⟨⟨k + 1, a', cp', by omega, by go_num, rfl, HE0, HO3, HB3⟩, by simp [intOf]; omega⟩
      · have hv := HV3.out (by rw [HFE.out, if_pos hr]; exact hr)
        rw [HFE.out, if_pos hr] at hv
        subst hv
        have HE2 := Hd.mk hr
        have d1 : (V != 0) = true := by rw [bne_iff_ne]; exact hr
        clear hr
        go_wp2_with fail
        exact bodyPost_ret (v := .tuple #[.slice none 0 0, .int .i64 V]) (by simp [results, Tryz.results10, go_sem]) rfl (HR.out _ _ ⟨Or.inr ⟨HE2.out, rfl⟩, B2.out⟩)
    · have hge : ¬ (k : Int) < n := by omega
      obtain rfl : n = k := by omega
      have HTk : Hd (l.take n = l) := ⟨List.take_of_length_le (by rw [HN.out]; omega)⟩
      rw [HTk.out] at HO
      have hv : Hd (V = 0) := ⟨by rw [HV2.out]; exact HE.out⟩
      clear hlt
      go_wp2_with fail
      exact bodyPost_ret (v := .tuple #[.slice a n cp, .int .i64 0]) (by simp [results, Tryz.results10, go_sem]) rfl (HR.out _ _ ⟨Or.inl ⟨hv.out, a, cp, rfl, HO.out⟩, HB.out⟩)

end Go.Proofs.YteikihidblcljaaGreat
