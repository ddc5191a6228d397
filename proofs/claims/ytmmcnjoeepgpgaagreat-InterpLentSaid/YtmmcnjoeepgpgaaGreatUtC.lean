/- The walk of the reference's Check (tenorref10). -/
import Derived.Test.YtmmcnjoeepgpgaaGreatUvC
import Derived.Test.YtmmcnjoeepgpgaaGreatM12
import Derived.Test.YtmmcnjoeepgpgaaGreatM2
import Derived.Test.YtmmcnjoeepgpgaaGreatM11
import Derived.BigQuiet
namespace Go.Proofs.YtmmcnjoeepgpgaaGreat
open Go.RowKit
set_option linter.unusedSimpArgs false
set_option linter.unusedVariables false

theorem prv_ge {kind : Int} {X : List Int} {Y : List Nat} {k : Nat} (h : ∀ i, i < k → ndA kind X Y i = true) : ∀ j, j ≤ k → -1 ≤ prv X j
  | 0, _ => by unfold prv; rw [if_pos rfl]; omega
  | j + 1, hj => by
    have h1 := prv_ge h j (by omega)
    have h2 := h j (by omega)
    unfold ndA ndB at h2
    simp at h2
    unfold prv
    rw [if_neg (by omega), Nat.add_sub_cancel]
    simp
    omega

set_option maxHeartbeats 12800000 in
set_option maxRecDepth 100000 in
theorem check10r_any (kind : Int) (ax : Option Addr) (X : List Int) (cx : Nat) (au : Option Addr) (Y : List Nat) (cu : Nat) (w : World) (ht : TblR w ax X au Y) :
    Calls Tryz.prog 30 #[.agg #[.int .i64 kind, .slice ax X.length cx, .slice au Y.length cu]] w fun e w' => e = .returned (.int .i64 (chkT kind X Y)) ∧ Below w.heap.size w w' := by
  have lx := ht.ix.len
  have ly := ht.lx
  have HT := Hd.mk ht
  obtain ⟨n, hn⟩ : ∃ n, X.length = n := ⟨_, rfl⟩
  obtain ⟨m, hm⟩ : ∃ m, Y.length = m := ⟨_, rfl⟩
  have HN := Hd.mk hn
  have HM := Hd.mk hm
  rw [hn] at lx ⊢
  rw [hm] at ly ⊢
  clear ht hn hm
  obtain ⟨W, hW, b1, b2⟩ := box_r w kind ax n cx au m cu
  obtain ⟨x0, x1, x2⟩ := b1.cell
  have B1 := Hd.mk b1
  have B2 := Hd.mk b2
  have HTW := Hd.mk (HT.out.belowK b2)
  clear b1 b2 HT
  by_cases hk1 : kind < 1
  · have hk : Hd (90 = chkT kind X Y) := ⟨(chk_kind (by unfold knB; simp; omega)).symm⟩
    have e1 := decide_eq_true hk1
    clear hk1
    go_enter Tryz.func30, Tryz.ntmps30
    go_upto_region 1 with fail
    clear hW
    go_wp2_with fail
    go_ret
    exact ⟨ret_int hk.out, B2.out⟩
  by_cases hk2 : 4 < kind
  · have hk : Hd (90 = chkT kind X Y) := ⟨(chk_kind (by unfold knB; simp; omega)).symm⟩
    have e1 := decide_eq_false hk1
    have e2 : decide (kind > 4) = true := decide_eq_true hk2
    clear hk1 hk2
    go_enter Tryz.func30, Tryz.ntmps30
    go_upto_region 1 with fail
    clear hW
    go_wp2_with fail
    go_ret
    exact ⟨ret_int hk.out, B2.out⟩
  have KB : Hd (knB kind = true) := ⟨by unfold knB; simp; omega⟩
  have e1 := decide_eq_false hk1
  have e2 : decide (kind > 4) = false := decide_eq_false hk2
  clear hk1 hk2
  by_cases hl1 : n < 1
  · have hk : Hd (100 = chkT kind X Y) := ⟨(chk_len KB.out (by unfold lnB; rw [HN.out]; simp; omega)).symm⟩
    have e3 : decide ((n : Int) < 1) = true := by simp; omega
    clear hl1
    go_enter Tryz.func30, Tryz.ntmps30
    go_upto_region 1 with fail
    clear hW
    go_wp2_with fail
    go_ret
    exact ⟨ret_int hk.out, B2.out⟩
  have e3 : decide ((n : Int) < 1) = false := by simp; omega
  by_cases hl2 : 256 < n
  · have hk : Hd (100 = chkT kind X Y) := ⟨(chk_len KB.out (by unfold lnB; rw [HN.out]; simp; omega)).symm⟩
    have e4 : decide ((n : Int) > 256) = true := by simp; omega
    clear hl1 hl2
    go_enter Tryz.func30, Tryz.ntmps30
    go_upto_region 1 with fail
    clear hW
    go_wp2_with fail
    go_ret
    exact ⟨ret_int hk.out, B2.out⟩
  have e4 : decide ((n : Int) > 256) = false := by simp; omega
  by_cases hl3 : n = m
  rotate_left
  · have hk : Hd (100 = chkT kind X Y) := ⟨(chk_len KB.out (by unfold lnB; rw [HN.out, HM.out]; simp; omega)).symm⟩
    have e5 : ((n : Int) != m) = true := by rw [bne_iff_ne]; omega
    clear hl1 hl2 hl3
    go_enter Tryz.func30, Tryz.ntmps30
    go_upto_region 1 with fail
    clear hW
    go_wp2_with fail
    go_ret
    exact ⟨ret_int hk.out, B2.out⟩
  have e5 : ((n : Int) != m) = false := by rw [bne_eq_false_iff_eq]; omega
  have L : Hd (lnB X Y = true) := ⟨by unfold lnB; rw [HN.out, HM.out]; simp; omega⟩
  have n1 : n ≤ 256 := by omega
  subst hl3
  clear hl1 hl2
  go_enter Tryz.func30, Tryz.ntmps30
  go_upto_region 1 with fail
  clear hW
  go_wp2_with fail
  go_loopw [3] (fun i wr => ∃ (k q : Nat) (K : Int), k ≤ n ∧ i = .int .i64 K ∧ Hd (K = (k : Int)) ∧ wr = W.drewN q ∧ Hd (∀ i, i < k → ndA kind X Y i = true)) (fun i _ => n - (intOf i).toNat)
  case atStart => exact ⟨0, 0, 0, Nat.zero_le _, rfl, ⟨rfl⟩, rfl, ⟨fun i hi => by omega⟩⟩
  case round =>
    obtain ⟨k, q, K, hk, rfl, hKk, rfl, HA⟩ := hrel
    have hK := hKk.out
    obtain ⟨wq, hwq⟩ : ∃ wq, W.drewN q = wq := ⟨_, rfl⟩
    have HWq := Hd.mk hwq
    have v0 : (W.drewN q).cell? ⟨w.heap.size, 0, none⟩ = _ := x0
    have v1 : (W.drewN q).cell? ⟨w.heap.size, 1, none⟩ = _ := x1
    have v2 : (W.drewN q).cell? ⟨w.heap.size, 2, none⟩ = _ := x2
    have BQ := Hd.mk (below_drewN B2.out q)
    have HTQ : Hd (TblR (W.drewN q) ax X au Y) := ⟨HTW.out.belowK (below_drewN (Below.refl _ _) q)⟩
    rw [hwq] at v0 v1 v2 BQ HTQ ⊢
    clear x0 x1 x2 hwq B2 HTW
    by_cases hlt : k < n
    · have hlt' : K < n := by omega
      have k0 : (0 : Int) ≤ k := by omega
      obtain ⟨bx, ox, hax, cxk⟩ := HTQ.out.ix.at k (by rw [HN.out]; exact hlt)
      obtain ⟨by_, oy, hay, cyk⟩ := (HTQ.out.uy (by rw [HM.out]; exact n1)).at k (by rw [HM.out]; exact hlt)
      have F := Hd.mk ((HTQ.out.uy (by rw [HM.out]; exact n1)).wf k)
      have HX : Hd (ndA kind X Y k = ndB kind (prv X k) (X.getD k 0) (Y.getD k 0)) := ⟨rfl⟩
      have HBad : Hd (ndA kind X Y k = false → 100 = chkT kind X Y) := ⟨fun h => (chk_node KB.out L.out (by rw [HN.out]; exact hlt) h).symm⟩
      have HGo : Hd (ndA kind X Y k = true → ∀ i, i < k + 1 → ndA kind X Y i = true) := ⟨fun h i hi => by
        by_cases e : i = k
        · rw [e]; exact h
        · exact HA.out i (by omega)⟩
      have HPr : Hd (-1 ≤ prv X k) := ⟨prv_ge HA.out k (Nat.le_refl _)⟩
      have HNu := Hd.mk (rNumber_any (Y.getD k 0) F.out)
      have HLt := Hd.mk (rLt_any 0 (Y.getD k 0) ⟨by decide⟩ F.out)
      have HPe : Hd (0 < k → prv X k = X.getD (k - 1) 0) := ⟨fun h => by unfold prv; rw [if_neg (by omega)]⟩
      have HP0 : Hd (k = 0 → prv X k = -1) := ⟨fun h => by unfold prv; rw [if_pos h]⟩
      have HC3 : Hd (0 < k → wq.cell? ⟨bx, ox + (k - 1), none⟩ = some (.int .i64 (X.getD (k - 1) 0))) := ⟨fun h => by
        obtain ⟨b', o', ha', c'⟩ := HTQ.out.ix.at (k - 1) (by rw [HN.out]; omega)
        rw [hax] at ha'
        cases ha'
        exact c'⟩
      generalize ndA kind X Y k = nd at *
      generalize X.getD k 0 = x at *
      generalize Y.getD k 0 = y at *
      generalize X.getD (k - 1) 0 = xp at *
      obtain ⟨p, hp⟩ : ∃ p, prv X k = p := ⟨_, rfl⟩
      rw [hp] at HX HPr HPe HP0
      subst hax
      subst hay
      clear hp HA
      have hpr := HPr.out
      have q1 : K.toNat = k := by omega
      have q0 : (0 : Int) ≤ K := by omega
      have q2 : K < n := by omega
      have hkn : k < n := hlt
      have hK0 : Hd (k = 0 → K = 0) := ⟨fun e => by omega⟩
      clear k0 hlt'
      by_cases t0 : x < 0
      · have d0 := decide_eq_true t0
        have hb := HBad.out (by rw [HX.out]; unfold ndB; simp; omega)
        have hk := Hd.mk hb
        clear hb t0 hlt
        go_wp2_with fail
        go_quiet (first | (go_at_call 60; exact Calls.quiet_of_same ((HNu.out _).mono fun _ _ h => ⟨h.1, h.2.symm⟩)) | (go_at_call 32; exact Calls.quiet_of_same ((HLt.out _).mono fun _ _ h => ⟨h.1, h.2.symm⟩)))
        go_wp2_with fail
        go_ret
        exact ⟨ret_int hk.out, below_drewN BQ.out _⟩
      have d0 := decide_eq_false t0
      by_cases t2 : 109572 < x
      · have d2 : decide (x > 109572) = true := by simpa using t2
        have hb := HBad.out (by rw [HX.out]; unfold ndB; simp; omega)
        have hk := Hd.mk hb
        clear hb t0 t2 hlt
        go_wp2_with fail
        go_quiet (first | (go_at_call 60; exact Calls.quiet_of_same ((HNu.out _).mono fun _ _ h => ⟨h.1, h.2.symm⟩)) | (go_at_call 32; exact Calls.quiet_of_same ((HLt.out _).mono fun _ _ h => ⟨h.1, h.2.symm⟩)))
        go_wp2_with fail
        go_ret
        exact ⟨ret_int hk.out, below_drewN BQ.out _⟩
      have d2 : decide (x > 109572) = false := by simp; omega
      by_cases tk : k = 0
      · have hp1 := HP0.out tk
        have dk3 : decide (0 < K) = false := decide_eq_false (by omega)
        clear hK
        clear HPe HC3
        cases hf : fin y
        · rw [hf] at HNu
          have hb := HBad.out (by rw [HX.out]; unfold ndB; rw [hf]; simp)
          have hk := Hd.mk hb
          clear hb t0 t2 hlt hf tk
          go_wp2_with fail
          go_quiet (first | (go_at_call 60; exact Calls.quiet_of_same ((HNu.out _).mono fun _ _ h => ⟨h.1, h.2.symm⟩)) | (go_at_call 32; exact Calls.quiet_of_same ((HLt.out _).mono fun _ _ h => ⟨h.1, h.2.symm⟩)))
          go_wp2_with fail
          go_ret
          exact ⟨ret_int hk.out, below_drewN BQ.out _⟩
        rw [hf] at HNu
        by_cases t4 : kind = 4
        · have d4 : (kind == 4) = true := by simpa using t4
          cases hp : ltB 0 y
          · rw [hp] at HLt
            have hp' : ltF 0 y = false := hp
            have hb := HBad.out (by rw [HX.out]; unfold ndB; rw [hf, hp', d4]; simp)
            have hk := Hd.mk hb
            clear hb t0 t2 hlt hf hp hp' t4 tk
            go_wp2_with fail
            go_quiet (first | (go_at_call 60; exact Calls.quiet_of_same ((HNu.out _).mono fun _ _ h => ⟨h.1, h.2.symm⟩)) | (go_at_call 32; exact Calls.quiet_of_same ((HLt.out _).mono fun _ _ h => ⟨h.1, h.2.symm⟩)))
            go_wp2_with fail
            go_ret
            exact ⟨ret_int hk.out, below_drewN BQ.out _⟩
          · rw [hp] at HLt
            have hp' : ltF 0 y = true := hp
            have HG := Hd.mk (HGo.out (by rw [HX.out]; unfold ndB; rw [hf, hp']; simp; omega))
            clear t0 t2 hlt hf hp hp' t4 tk
            go_wp2_with fail
            go_quiet (first | (go_at_call 60; exact Calls.quiet_of_same ((HNu.out _).mono fun _ _ h => ⟨h.1, h.2.symm⟩)) | (go_at_call 32; exact Calls.quiet_of_same ((HLt.out _).mono fun _ _ h => ⟨h.1, h.2.symm⟩)))
            go_wp2_with fail
            exact ⟨⟨k + 1, _, K + 1, by omega, by go_num, ⟨by have := hKk.out; omega⟩, by rw [← HWq.out, World.drewN_drewN], HG⟩, by simp [intOf]; omega⟩
        · have d4 : (kind == 4) = false := by simpa using t4
          have HG := Hd.mk (HGo.out (by rw [HX.out]; unfold ndB; rw [hf, d4]; simp; omega))
          clear t0 t2 hlt hf t4 tk
          go_wp2_with fail
          go_quiet (first | (go_at_call 60; exact Calls.quiet_of_same ((HNu.out _).mono fun _ _ h => ⟨h.1, h.2.symm⟩)) | (go_at_call 32; exact Calls.quiet_of_same ((HLt.out _).mono fun _ _ h => ⟨h.1, h.2.symm⟩)))
          go_wp2_with fail
          exact ⟨⟨k + 1, _, K + 1, by omega, by go_num, ⟨by have := hKk.out; omega⟩, by rw [← HWq.out, World.drewN_drewN], HG⟩, by simp [intOf]; omega⟩
      · have hp1 := HPe.out (by omega)
        have c3 := HC3.out (by omega)
        have dk3 : decide (0 < K) = true := decide_eq_true (by omega)
        have wr1 : IntKind.i64.wrap (K - 1) = K - 1 := IntWalk.i64_in _ (by omega)
        have wr2 : (K - 1).toNat = k - 1 := by omega
        have p1 : (0 : Int) ≤ K - 1 := by omega
        have p2 : K - 1 < n := by omega
        clear hK
        clear HP0 HC3
        by_cases t1 : x ≤ xp
        · have d1 := decide_eq_true t1
          have hb := HBad.out (by rw [HX.out]; unfold ndB; simp; omega)
          have hk := Hd.mk hb
          clear hb t0 t1 t2 tk hlt
          go_wp2_with fail
          go_quiet (first | (go_at_call 60; exact Calls.quiet_of_same ((HNu.out _).mono fun _ _ h => ⟨h.1, h.2.symm⟩)) | (go_at_call 32; exact Calls.quiet_of_same ((HLt.out _).mono fun _ _ h => ⟨h.1, h.2.symm⟩)))
          go_wp2_with fail
          go_ret
          exact ⟨ret_int hk.out, below_drewN BQ.out _⟩
        have d1 := decide_eq_false t1
        cases hf : fin y
        · rw [hf] at HNu
          have hb := HBad.out (by rw [HX.out]; unfold ndB; rw [hf]; simp)
          have hk := Hd.mk hb
          clear hb t0 t2 hlt hf t1 tk
          go_wp2_with fail
          go_quiet (first | (go_at_call 60; exact Calls.quiet_of_same ((HNu.out _).mono fun _ _ h => ⟨h.1, h.2.symm⟩)) | (go_at_call 32; exact Calls.quiet_of_same ((HLt.out _).mono fun _ _ h => ⟨h.1, h.2.symm⟩)))
          go_wp2_with fail
          go_ret
          exact ⟨ret_int hk.out, below_drewN BQ.out _⟩
        rw [hf] at HNu
        by_cases t4 : kind = 4
        · have d4 : (kind == 4) = true := by simpa using t4
          cases hp : ltB 0 y
          · rw [hp] at HLt
            have hp' : ltF 0 y = false := hp
            have hb := HBad.out (by rw [HX.out]; unfold ndB; rw [hf, hp', d4]; simp)
            have hk := Hd.mk hb
            clear hb t0 t2 hlt hf hp hp' t4 t1 tk
            go_wp2_with fail
            go_quiet (first | (go_at_call 60; exact Calls.quiet_of_same ((HNu.out _).mono fun _ _ h => ⟨h.1, h.2.symm⟩)) | (go_at_call 32; exact Calls.quiet_of_same ((HLt.out _).mono fun _ _ h => ⟨h.1, h.2.symm⟩)))
            go_wp2_with fail
            go_ret
            exact ⟨ret_int hk.out, below_drewN BQ.out _⟩
          · rw [hp] at HLt
            have hp' : ltF 0 y = true := hp
            have HG := Hd.mk (HGo.out (by rw [HX.out]; unfold ndB; rw [hf, hp']; simp; omega))
            clear t0 t2 hlt hf hp hp' t4 t1 tk
            go_wp2_with fail
            go_quiet (first | (go_at_call 60; exact Calls.quiet_of_same ((HNu.out _).mono fun _ _ h => ⟨h.1, h.2.symm⟩)) | (go_at_call 32; exact Calls.quiet_of_same ((HLt.out _).mono fun _ _ h => ⟨h.1, h.2.symm⟩)))
            go_wp2_with fail
            exact ⟨⟨k + 1, _, K + 1, by omega, by go_num, ⟨by have := hKk.out; omega⟩, by rw [← HWq.out, World.drewN_drewN], HG⟩, by simp [intOf]; omega⟩
        · have d4 : (kind == 4) = false := by simpa using t4
          have HG := Hd.mk (HGo.out (by rw [HX.out]; unfold ndB; rw [hf, d4]; simp; omega))
          clear t0 t2 hlt hf t4 t1 tk
          go_wp2_with fail
          go_quiet (first | (go_at_call 60; exact Calls.quiet_of_same ((HNu.out _).mono fun _ _ h => ⟨h.1, h.2.symm⟩)) | (go_at_call 32; exact Calls.quiet_of_same ((HLt.out _).mono fun _ _ h => ⟨h.1, h.2.symm⟩)))
          go_wp2_with fail
          exact ⟨⟨k + 1, _, K + 1, by omega, by go_num, ⟨by have := hKk.out; omega⟩, by rw [← HWq.out, World.drewN_drewN], HG⟩, by simp [intOf]; omega⟩
    · obtain rfl : k = n := by omega
      have hk : Hd (0 = chkT kind X Y) := ⟨(chk_good KB.out L.out (by rw [HN.out]; exact HA.out)).symm⟩
      have hge : ¬ K < (k : Int) := by omega
      clear hlt
      go_wp2_with fail
      go_ret
      exact ⟨ret_int hk.out, BQ.out⟩

end Go.Proofs.YtmmcnjoeepgpgaaGreat
