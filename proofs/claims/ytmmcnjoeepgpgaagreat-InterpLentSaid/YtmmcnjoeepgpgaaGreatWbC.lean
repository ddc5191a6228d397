/- The walk of InterpLent. -/
import Derived.Test.YtmmcnjoeepgpgaaGreatWaC
namespace Go.Proofs.YtmmcnjoeepgpgaaGreat
open Go.RowKit
set_option linter.unusedSimpArgs false
set_option linter.unusedVariables false

def xsT (X : List Int) : List Int := X ++ [7701, 7702]
def ysT (Y : List Nat) : List Nat := Y ++ [4665191552769851392, 4665192652281479168]
/-- What is in memory that nobody writes. -/
structure LentF (w0 wr : World) (kind : Int) (ax : Option Addr) (X : List Int) (cx : Nat) (ay : Option Addr) (Y : List Nat) (cy : Nat) (au : Option Addr) (cu gx px gy py bT bR bO : Nat) : Prop where
  c : Below w0.heap.size w0 wr
  bt : BoxT wr bT kind ax X.length cx ay Y.length cy
  br : BoxR wr bR kind ax X.length cx au Y.length cu
  bo : BoxT wr bO kind (some ⟨gx, 0, none⟩) X.length px (some ⟨gy, 0, none⟩) Y.length py
  tx : Tbl wr ax X ay Y
  tr : TblR wr ax X au Y
  xs : Ins wr (some ⟨gx, 0, none⟩) (xsT X)
  ys : Fls wr (some ⟨gy, 0, none⟩) (ysT Y)
theorem LentF.below {w0 wr w' : World} {kind : Int} {ax : Option Addr} {X : List Int} {cx : Nat} {ay : Option Addr} {Y : List Nat} {cy : Nat} {au : Option Addr} {cu gx px gy py bT bR bO : Nat}
    (h : LentF w0 wr kind ax X cx ay Y cy au cu gx px gy py bT bR bO) (hb : Below wr.heap.size wr w') : LentF w0 w' kind ax X cx ay Y cy au cu gx px gy py bT bR bO :=
  ⟨h.c.trans (hb.mono h.c.size), h.bt.below hb, h.br.below hb, h.bo.below hb, h.tx.belowK hb, h.tr.belowK hb, h.xs.belowK hb, h.ys.belowK hb⟩
theorem getD_app (l m : List Nat) (i : Nat) (h : i < l.length) : (l ++ m).getD i 0 = l.getD i 0 := by
  simp only [List.getD_eq_getElem?_getD]; rw [List.getElem?_append_left h]
theorem getD_appZ (l m : List Int) (i : Nat) (h : i < l.length) : (l ++ m).getD i 0 = l.getD i 0 := by
  simp only [List.getD_eq_getElem?_getD]; rw [List.getElem?_append_left h]
theorem LentF.own {w0 wr : World} {kind : Int} {ax : Option Addr} {X : List Int} {cx : Nat} {ay : Option Addr} {Y : List Nat} {cy : Nat} {au : Option Addr} {cu gx px gy py bT bR bO : Nat}
    (h : LentF w0 wr kind ax X cx ay Y cy au cu gx px gy py bT bR bO) : Tbl wr (some ⟨gx, 0, none⟩) X (some ⟨gy, 0, none⟩) Y where
  ix := ⟨fun k hk => by
    obtain ⟨b, o, h1, h2⟩ := h.xs.cell k (by unfold xsT; rw [List.length_append]; omega)
    exact ⟨b, o, h1, by rw [h2]; unfold xsT; rw [getD_appZ _ _ _ hk]⟩, h.tx.ix.wf, h.tx.ix.len⟩
  fy := ⟨(fun e => by cases e), fun b o v e i hi => by
    obtain ⟨h1, h2⟩ := h.ys.cell b o v e i (by unfold ysT; rw [List.length_append]; omega)
    exact ⟨h1, by rw [h2]; unfold ysT; rw [getD_app _ _ _ hi]⟩, h.tx.fy.wf, h.tx.fy.len⟩
theorem ins_of_own {w : World} {base n : Nat} {v : Value} {l : List Int} (h : w.ownsRow base 3 1 v n (l.map (Value.int .i64))) (hn : l.length = n) (h0 : 0 < n) (hw : ∀ k, -9223372036854775808 ≤ l.getD k 0 ∧ l.getD k 0 ≤ 9223372036854775807) (hl : l.length ≤ 1000000) :
    ∃ g c, v = .slice (some ⟨g, 0, none⟩) n c ∧ n ≤ c ∧ c ≤ 9223372036854775807 ∧ Ins w (some ⟨g, 0, none⟩) l := by
  obtain ⟨h1, ⟨e, h2⟩ | ⟨g, cap, cur, e, hg, hh, hc1, hc2, hs, ht⟩⟩ := id h
  · omega
  · subst e
    refine ⟨g, cap, rfl, hc1, Nat.le_trans hc2 (by unfold maxLen; decide), ⟨fun k hk => ⟨g, 0, rfl, ?_⟩, hw, by omega⟩⟩
    have hx : (l.map (Value.int .i64))[k]? = some (.int .i64 (l.getD k 0)) := by
      rw [List.getElem?_map, List.getElem?_eq_getElem hk, List.getD_eq_getElem?_getD, List.getElem?_eq_getElem hk]; rfl
    have := h.cells rfl k _ hx
    have ha : (⟨g, 0, none⟩ : Addr).add k = ⟨g, 0 + k, none⟩ := by by_cases h0 : k = 0 <;> simp [Addr.add, h0]
    rw [ha] at this
    exact this
theorem fls_of_own {w : World} {base n : Nat} {v : Value} {l : List Nat} (h : w.ownsRow base 27 1 v n (l.map (Value.float .f64))) (hn : l.length = n) (h0 : 0 < n) (hw : ∀ k, F64 (l.getD k 0)) (hl : l.length ≤ 1000000) :
    ∃ g c, v = .slice (some ⟨g, 0, none⟩) n c ∧ n ≤ c ∧ c ≤ 9223372036854775807 ∧ Fls w (some ⟨g, 0, none⟩) l := by
  obtain ⟨h1, ⟨e, h2⟩ | ⟨g, cap, cur, e, hg, hh, hc1, hc2, hs, ht⟩⟩ := id h
  · omega
  · subst e
    refine ⟨g, cap, rfl, hc1, Nat.le_trans hc2 (by unfold maxLen; decide), ⟨fun e => (by cases e), fun b o v e i hi => ?_, hw, by omega⟩⟩
    cases e
    have hx : (l.map (Value.float .f64))[i]? = some (.float .f64 (l.getD i 0)) := by
      rw [List.getElem?_map, List.getElem?_eq_getElem hi, List.getD_eq_getElem?_getD, List.getElem?_eq_getElem hi]; rfl
    have := h.cells rfl i _ hx
    have ha : (⟨g, 0, none⟩ : Addr).add i = ⟨g, 0 + i, none⟩ := by by_cases h0 : i = 0 <;> simp [Addr.add, h0]
    rw [ha] at this
    exact ⟨rfl, this⟩
theorem wf_xsT {X : List Int} (h : ∀ k, -9223372036854775808 ≤ X.getD k 0 ∧ X.getD k 0 ≤ 9223372036854775807) (k : Nat) : -9223372036854775808 ≤ (xsT X).getD k 0 ∧ (xsT X).getD k 0 ≤ 9223372036854775807 := by
  unfold xsT
  by_cases hk : k < X.length
  · rw [getD_appZ _ _ _ hk]; exact h k
  · rw [List.getD_eq_getElem?_getD, List.getElem?_append_right (by omega)]
    match k - X.length with
    | 0 => decide
    | 1 => decide
    | (n + 2) => simp
theorem wf_ysT {Y : List Nat} (h : ∀ k, F64 (Y.getD k 0)) (k : Nat) : F64 ((ysT Y).getD k 0) := by
  unfold ysT
  by_cases hk : k < Y.length
  · rw [getD_app _ _ _ hk]; exact h k
  · rw [List.getD_eq_getElem?_getD, List.getElem?_append_right (by omega)]
    match k - Y.length with
    | 0 => exact ⟨by decide⟩
    | 1 => exact ⟨by decide⟩
    | (n + 2) => exact ⟨by simp⟩
theorem ints_one (l : List Int) : ∀ u ∈ l.map (Value.int .i64), u.oneCell' = true := by
  intro u hu
  obtain ⟨x, _, rfl⟩ := List.mem_map.1 hu
  rfl
theorem Ins.news {w : World} {ad : Option Addr} {l : List Int} (h : Ins w ad l) (p : Addr) (hp : ad = some p) (j : Nat) (u : Value) (hu : (l.map (Value.int .i64))[j]? = some u) : w.cell? (p.add j) = some u := by
  rw [List.getElem?_map] at hu
  by_cases e : j < l.length
  · obtain ⟨b, o, h1, h2⟩ := h.cell j e
    rw [h1] at hp
    cases hp
    rw [List.getElem?_eq_getElem e] at hu
    rw [show (⟨b, o, none⟩ : Addr).add j = ⟨b, o + j, none⟩ by by_cases h0 : j = 0 <;> simp [Addr.add, h0], h2]
    simp at hu
    rw [← hu]
    simp [List.getD_eq_getElem?_getD, List.getElem?_eq_getElem e]
  · rw [List.getElem?_eq_none (by omega)] at hu
    cases hu
theorem Fls.newsN {w : World} {ad : Option Addr} {l : List Nat} (h : Fls w ad l) (p : Addr) (hp : ad = some p) (j : Nat) (u : Value) (hu : (l.map (Value.float .f64))[j]? = some u) : w.cell? (p.add j) = some u := by
  rw [List.getElem?_map] at hu
  by_cases e : j < l.length
  · rw [List.getElem?_eq_getElem e] at hu
    obtain ⟨b, o, s⟩ := p
    obtain ⟨h1, h2⟩ := h.cell b o s hp j e
    subst h1
    rw [show (⟨b, o, none⟩ : Addr).add j = ⟨b, o + j, none⟩ by by_cases h0 : j = 0 <;> simp [Addr.add, h0], h2]
    simp at hu
    rw [← hu]
    simp [List.getD_eq_getElem?_getD, List.getElem?_eq_getElem e]
  · rw [List.getElem?_eq_none (by omega)] at hu
    cases hu
theorem info_int8 : (Tryz.prog.info? 3).map (fun i => (i.zero, i.size, i.bytes)) = some (some (.int .i64 0), 1, 8) := by kernel_rfl
theorem info_f8 : (Tryz.prog.info? 27).map (fun i => (i.zero, i.size, i.bytes)) = some (some (.float .f64 0), 1, 8) := by kernel_rfl

set_option maxHeartbeats 6400000 in
set_option maxRecDepth 100000 in
theorem interpLent_any (kind : Int) (ax : Option Addr) (X : List Int) (cx : Nat) (ay : Option Addr) (Y : List Nat) (cy : Nat) (x k : Int) (w : World) (_hk : -9223372036854775808 ≤ kind ∧ kind ≤ 9223372036854775807) (ht : Tbl w ax X ay Y) (hrx : Room ax X.length cx) (hry : Room ay Y.length cy) (_hx : (Lit.int .i64 x).wf = true) (_hk2 : (Lit.int .i64 k).wf = true) :
    Calls Tryz.prog 5 #[.agg #[.int .i64 kind, .slice ax X.length cx, .slice ay Y.length cy], .int .i64 x, .int .i64 k] w fun e w' => e = .returned (.bool true) ∧ Below w.heap.size w w' := by
  have lx := ht.ix.len
  have ly := ht.fy.len
  obtain ⟨W, hW, b1, b2⟩ := box_t w kind ax X.length cx ay Y.length cy
  have HW := Hd.mk hW
  have B1 := Hd.mk b1
  have B2 := Hd.mk b2
  obtain ⟨y0, y1, y2⟩ := b1.cell
  have T := Hd.mk (ht.belowK b2)
  by_cases hl : 40 < X.length
  · have d1 : decide ((X.length : Int) > 40) = true := by simp; omega
    generalize X.length = n at *
    generalize Y.length = m at *
    clear hl b1 b2 hW ht
    go_enter Tryz.func5, Tryz.ntmps5
    go_upto_region 1 with fail
    rw [HW.out]
    go_wp2_with fail
    refine (awake10_any _).mono ?_; rintro e w3 ⟨rfl, hb⟩
    have C3 := Hd.mk (B2.out.trans (hb.mono B2.out.size))
    clear hb
    go_wp2_with fail
    go_ret
    exact ⟨rfl, C3.out⟩
  have d1 : decide ((X.length : Int) > 40) = false := by simp; omega
  by_cases hm : 40 < Y.length
  · have d2 : decide ((Y.length : Int) > 40) = true := by simp; omega
    generalize X.length = n at *
    generalize Y.length = m at *
    clear hl hm b1 b2 hW ht
    go_enter Tryz.func5, Tryz.ntmps5
    go_upto_region 1 with fail
    rw [HW.out]
    go_wp2_with fail
    refine (awake10_any _).mono ?_; rintro e w3 ⟨rfl, hb⟩
    have C3 := Hd.mk (B2.out.trans (hb.mono B2.out.size))
    clear hb
    go_wp2_with fail
    go_ret
    exact ⟨rfl, C3.out⟩
  have d2 : decide ((Y.length : Int) > 40) = false := by simp; omega
  have HO := Hd.mk fun w1 (h : Tbl w1 ax X ay Y) => (of10_any kind ax X.length cx ay Y cy w1 h.fy (by omega)).mono fun _ _ h2 => OfRet.tbl2 h h2
  obtain ⟨n, hn⟩ : ∃ n, X.length = n := ⟨_, rfl⟩
  obtain ⟨m, hm'⟩ : ∃ m, Y.length = m := ⟨_, rfl⟩
  have HN := Hd.mk hn
  have HM := Hd.mk hm'
  have n40 : n ≤ 40 := by omega
  have m40 : m ≤ 40 := by omega
  have HRX := Hd.mk hrx
  have HRY := Hd.mk hry
  have HWX : Hd (∀ k, -9223372036854775808 ≤ X.getD k 0 ∧ X.getD k 0 ≤ 9223372036854775807) := ⟨ht.ix.wf⟩
  have HWY : Hd (∀ k, F64 (Y.getD k 0)) := ⟨ht.fy.wf⟩
  have HLX : Hd ((X.map (Value.int .i64)).length = n) := ⟨by rw [List.length_map]; exact hn⟩
  have HLY : Hd ((Y.map (Value.float .f64)).length = m) := ⟨by rw [List.length_map]; exact hm'⟩
  obtain ⟨i0, hi, hz0, hz1, hz2⟩ := info_parts info_int8
  obtain ⟨j0, gi, gz0, gz1, gz2⟩ := info_parts info_f8
  rw [hn, hm'] at b1 hW ⊢
  rw [hn] at HO y1 d1
  rw [hm'] at HO y2 d2
  have HW := Hd.mk hW
  have B1 := Hd.mk b1
  clear hl hm b1 b2 hW ht hn hm' hrx hry lx ly
  go_enter Tryz.func5, Tryz.ntmps5
  go_upto_region 1 with fail
  rw [HW.out]
  go_wp2_with fail
  refine (HO.out _ T.out).mono ?_; rintro e w1 ⟨au, cu, rfl, R1, RR, hb⟩
  have C1 := Hd.mk (B2.out.trans (hb.out.mono B2.out.size))
  have T1 := Hd.mk (T.out.belowK hb.out)
  have U1 := Hd.mk (B1.out.below hb.out)
  clear hb y0 y1 y2 B1 B2 T HW HO
  obtain ⟨V, hV, v1, v2⟩ := box_r w1 kind ax n cx au m cu
  have HV := Hd.mk hV
  have V1 := Hd.mk v1
  have C2 := Hd.mk (C1.out.trans (v2.mono C1.out.size))
  have T2 := Hd.mk (T1.out.belowK v2)
  have U2 := Hd.mk (U1.out.below v2)
  have R2 := Hd.mk (R1.out.belowK v2)
  clear v1 v2 C1 T1 U1 R1 hV
  obtain ⟨z0, z1, z2⟩ := U2.out.cell
  go_upto_region 4 with fail
  rw [HV.out]
  clear HV
  have HCX : Hd (ax = none → X.map (Value.int .i64) = [] ∧ cx = 0) := ⟨fun e => by
    have h1 := HRX.out.nil e
    have h2 := HRX.out.le
    rw [HN.out] at h2
    exact ⟨by rw [List.map_eq_nil_iff]; exact List.length_eq_zero_iff.1 (by have := HN.out; omega), h1⟩⟩
  have HCY : Hd (ay = none → Y.map (Value.float .f64) = [] ∧ cy = 0) := ⟨fun e => by
    have h1 := HRY.out.nil e
    have h2 := HRY.out.le
    rw [HM.out] at h2
    exact ⟨by rw [List.map_eq_nil_iff]; exact List.length_eq_zero_iff.1 (by have := HM.out; omega), h1⟩⟩
  have HDX : Hd (0 + (X.map (Value.int .i64)).length ≤ 1000000) := ⟨by rw [HLX.out]; omega⟩
  have HDY : Hd (0 + (Y.map (Value.float .f64)).length ≤ 1000000) := ⟨by rw [HLY.out]; omega⟩
  have HEX : Hd (∀ c', Value.slice ax n c' = Value.slice ax (X.map (Value.int .i64)).length c') := ⟨fun c' => by rw [HLX.out]⟩
  have HEY : Hd (∀ c', Value.slice ay m c' = Value.slice ay (Y.map (Value.float .f64)).length c') := ⟨fun c' => by rw [HLY.out]⟩
  have hVs : w.heap.size < V.heap.size := U2.out.lt
  have TE : Hd (Tbl (V.alloc (.cells #[] 3)) ax X ay Y) := ⟨T2.out.belowK ((Below.refl _ _).alloc (Nat.le_refl _) _)⟩
  have OE : Hd ((V.alloc (.cells #[] 3)).ownsRow V.heap.size 3 1 (.slice (some ⟨V.heap.size, 0, none⟩) 0 0) 0 []) := ⟨World.ownsRow_made V #[] 0 (Nat.le_refl _) (by decide) rfl⟩
  go_wp2_with (at_builtin; first | (refine wpList_app_list rfl (.tmp 44) (.tmp 46) 22 rfl V.heap.size 3 i0 (.int .i64 0) Tryz.underlying22 hi hz0 hz1 hz2 rfl (.slice (some ⟨V.heap.size, 0, none⟩) 0 0) 0 [] rfl OE.out ax cx (X.map (Value.int .i64)) (HEX.out cx) HCX.out TE.out.ix.news (ints_one X) HDX.out (by simp) ?_))
  intro v1 w2 ho2 hb2
  have K2 := Hd.mk (((Below.refl V.heap.size V).alloc (Nat.le_refl _) (.cells #[] 3)).trans hb2)
  have O2 : Hd (w2.ownsRow V.heap.size 3 1 v1 n (X.map (Value.int .i64))) := ⟨by
    have := ho2
    rw [HN.out] at this
    exact this⟩
  clear ho2 hb2 OE TE HEX HCX HDX
  have hs2 : V.heap.size ≤ w2.heap.size := K2.out.size
  have HD2 : Hd (n + 2 ≤ 1000000) := ⟨by omega⟩
  go_wp2_with (at_builtin; first | (refine wpList_app_list rfl (.tmp 47) (.tmp 48) 22 rfl V.heap.size 3 i0 (.int .i64 0) Tryz.underlying22 hi hz0 hz1 hz2 rfl v1 n (X.map (Value.int .i64)) rfl (O2.out.alloc _) (some ⟨w2.heap.size, 0, none⟩) 2 [.int .i64 7701, .int .i64 7702] rfl (fun e => by cases e) (by
    intro p hp j u hj
    cases hp
    match j, hj with
    | 0, hj => simp at hj; subst hj; simp [Addr.add]
    | 1, hj => simp at hj; subst hj; simp [Addr.add]) (by intro u hu; simp at hu; rcases hu with rfl | rfl <;> rfl) HD2.out (by simp; omega) ?_))
  intro v2 w3 ho3 hb3
  have K3 := Hd.mk ((K2.out.alloc hs2 (.cells #[.int .i64 7701, .int .i64 7702] 3)).trans hb3)
  have hx3 : w3.ownsRow V.heap.size 3 1 v2 (n + 2) ((xsT X).map (Value.int .i64)) := by
    unfold xsT
    rw [List.map_append]
    exact ho3
  obtain ⟨gx, px, rfl, px1, px2, ix3⟩ := ins_of_own hx3 (by unfold xsT; rw [List.length_append, HN.out]; rfl) (by omega) (wf_xsT HWX.out) (by unfold xsT; rw [List.length_append, HN.out]; show n + 2 ≤ _; omega)
  have XS3 := Hd.mk ix3
  have HGx : Hd (V.heap.size ≤ gx ∧ gx < w3.heap.size) := ⟨hx3.lt gx rfl⟩
  clear ho3 hb3 hx3 ix3 O2 K2
  have U3 := Hd.mk (U2.out.belowB K3.out hVs)
  have hs3 : V.heap.size ≤ w3.heap.size := K3.out.size
  obtain ⟨y0, y1, y2⟩ := U3.out.cell
  have hVs3 : w.heap.size < w3.heap.size := by omega
  have T3 : Hd (Fls w3 ay Y) := ⟨T2.out.fy.belowK K3.out⟩
  have TE : Hd (Fls (w3.alloc (.cells #[] 27)) ay Y) := ⟨T3.out.belowK ((Below.refl _ _).alloc (Nat.le_refl _) _)⟩
  have OE : Hd ((w3.alloc (.cells #[] 27)).ownsRow w3.heap.size 27 1 (.slice (some ⟨w3.heap.size, 0, none⟩) 0 0) 0 []) := ⟨World.ownsRow_made w3 #[] 0 (Nat.le_refl _) (by decide) rfl⟩
  clear z0 z1 z2
  go_wp2_with (at_builtin; first | (refine wpList_app_list rfl (.tmp 50) (.tmp 52) 23 rfl w3.heap.size 27 j0 (.float .f64 0) Tryz.underlying23 gi gz0 gz1 gz2 rfl (.slice (some ⟨w3.heap.size, 0, none⟩) 0 0) 0 [] rfl OE.out ay cy (Y.map (Value.float .f64)) (HEY.out cy) HCY.out TE.out.newsN (floats_one Y) HDY.out (by simp) ?_))
  intro v4 w4 ho4 hb4
  have K4 := Hd.mk (((Below.refl w3.heap.size w3).alloc (Nat.le_refl _) (.cells #[] 27)).trans hb4)
  have O4 : Hd (w4.ownsRow w3.heap.size 27 1 v4 m (Y.map (Value.float .f64))) := ⟨by
    have := ho4
    rw [HM.out] at this
    exact this⟩
  clear ho4 hb4 OE TE HEY HCY HDY
  have hs4 : w3.heap.size ≤ w4.heap.size := K4.out.size
  have HD4 : Hd (m + 2 ≤ 1000000) := ⟨by omega⟩
  go_wp2_with (at_builtin; first | (refine wpList_app_list rfl (.tmp 53) (.tmp 54) 23 rfl w3.heap.size 27 j0 (.float .f64 0) Tryz.underlying23 gi gz0 gz1 gz2 rfl v4 m (Y.map (Value.float .f64)) rfl (O4.out.alloc _) (some ⟨w4.heap.size, 0, none⟩) 2 [.float .f64 4665191552769851392, .float .f64 4665192652281479168] rfl (fun e => by cases e) (by
    intro p hp j u hj
    cases hp
    match j, hj with
    | 0, hj => simp at hj; subst hj; simp [Addr.add]
    | 1, hj => simp at hj; subst hj; simp [Addr.add]) (by intro u hu; simp at hu; rcases hu with rfl | rfl <;> rfl) HD4.out (by simp; omega) ?_))
  intro v5 w5 ho5 hb5
  have K5 := Hd.mk ((K4.out.alloc hs4 (.cells #[.float .f64 4665191552769851392, .float .f64 4665192652281479168] 27)).trans hb5)
  have hy5 : w5.ownsRow w3.heap.size 27 1 v5 (m + 2) ((ysT Y).map (Value.float .f64)) := by
    unfold ysT
    rw [List.map_append]
    exact ho5
  obtain ⟨gy, py, rfl, py1, py2, iy5⟩ := fls_of_own hy5 (by unfold ysT; rw [List.length_append, HM.out]; rfl) (by omega) (wf_ysT HWY.out) (by unfold ysT; rw [List.length_append, HM.out]; show m + 2 ≤ _; omega)
  have YS5 := Hd.mk iy5
  have XS5 := Hd.mk (XS3.out.belowK K5.out)
  have KV := Hd.mk (K3.out.trans (K5.out.mono hs3))
  have U5 := Hd.mk (U2.out.belowB KV.out hVs)
  have V5 := Hd.mk (V1.out.belowB KV.out V1.out.lt)
  have T5 : Hd (Tbl w5 ax X ay Y) := ⟨T2.out.belowK KV.out⟩
  have R5 : Hd (TblR w5 ax X au Y) := ⟨R2.out.belowK KV.out⟩
  have C5 := Hd.mk (C2.out.trans (KV.out.mono C2.out.size))
  clear ho5 hb5 hy5 iy5 O4 K4 K5 K3 XS3 T3 U3 y0 y1 y2 T2 U2 V1 R2 C2 KV
  obtain ⟨y0, y1, y2⟩ := U5.out.cell
  obtain ⟨b0, b1, b2⟩ := V5.out.cell
  have hnp : n ≤ px := by omega
  have hmp : m ≤ py := by omega
  have hV5 : w.heap.size < w5.heap.size := U5.out.lt
  go_wp2_with fail
  go_region
  obtain ⟨wB, hwB, o1, o2⟩ : ∃ wB, (w5.alloc (.cells #[.int .i64 kind, .slice (some ⟨gx, 0, none⟩) n px, .slice (some ⟨gy, 0, none⟩) m py] 25)).drew = wB ∧ BoxT wB w5.heap.size kind (some ⟨gx, 0, none⟩) n px (some ⟨gy, 0, none⟩) m py ∧ Below w5.heap.size w5 wB := by
    obtain ⟨W', e1, e2, e3⟩ := box_t w5 kind (some ⟨gx, 0, none⟩) n px (some ⟨gy, 0, none⟩) m py
    exact ⟨W'.drew, by rw [← e1], e2, e3.drew⟩
  rw [hwB]
  have LF : Hd (LentF w wB kind ax X cx ay Y cy au cu gx px gy py w.heap.size w1.heap.size w5.heap.size) := ⟨⟨C5.out.trans (o2.mono C5.out.size), by rw [HN.out, HM.out]; exact U5.out.below o2, by rw [HN.out, HM.out]; exact V5.out.below o2, by rw [HN.out, HM.out]; exact o1, T5.out.belowK o2, R5.out.belowK o2, XS5.out.belowK o2, YS5.out.belowK o2⟩⟩
  have HSl := Hd.mk fun w1 h => slopesG_any kind (some ⟨gx, 0, none⟩) X px (some ⟨gy, 0, none⟩) Y py w1 h
  have HPt := Hd.mk fun w1 h => pointsG_any kind (some ⟨gx, 0, none⟩) X px (some ⟨gy, 0, none⟩) Y py k w1 h
  have HAt := Hd.mk fun w1 h => at_any10 kind (some ⟨gx, 0, none⟩) X px (some ⟨gy, 0, none⟩) Y py x w1 h ⟨by rw [HM.out]; exact hmp, py2, fun e => by cases e⟩
  have HRS := Hd.mk fun w1 h => slopesR_any (kind := kind) (ax := ax) (X := X) (cx := cx) (au := au) (Y := Y) (cu := cu) w1 h
  have HRP := Hd.mk fun w1 h => pointsR_any (kind := kind) (ax := ax) (X := X) (cx := cx) (au := au) (Y := Y) (cu := cu) k w1 h
  have HRA := Hd.mk fun w1 h => atr_any (kind := kind) (ax := ax) (X := X) (cx := cx) (au := au) (Y := Y) (cu := cu) (fun w1 h => check10r_any kind ax X cx au Y cu w1 h) x w1 h (by rw [HM.out]; exact RR.out)
  have hfv := F64_atT (kind := kind) (X := X) (x := x) HWY.out
  obtain ⟨Lt, Et, hLt⟩ : ∃ Lt Et, slpT kind X Y = (Lt, Et) := ⟨_, _, rfl⟩
  obtain ⟨Mt, Ft, hMt⟩ : ∃ Mt Ft, ptsT kind X Y k = (Mt, Ft) := ⟨_, _, rfl⟩
  obtain ⟨Vt, Gt, hVt⟩ : ∃ Vt Gt, atT kind X Y x = (Vt, Gt) := ⟨_, _, rfl⟩
  rw [hLt] at HSl HRS
  rw [hMt] at HPt HRP
  rw [hVt] at HAt HRA hfv
  unfold RetG at HSl HPt
  unfold RetU at HRS HRP
  unfold AtRet at HAt
  unfold AtRetU at HRA
  dsimp only at HSl HPt HRS HRP HAt HRA hfv
  rw [HN.out, HM.out] at HSl HPt HRS HRP HAt HRA
  have HA1 := Hd.mk fun a a' c c' w => are_one a a' Lt c c' w
  have HA2 := Hd.mk fun a a' c c' w => are_one a a' Mt c c' w
  have HIs := Hd.mk (is_true Vt Vt hfv hfv (same_of_cn rfl))
  have e4 : (Et == Et) = true := by simp
  have e5 : (Ft == Ft) = true := by simp
  have e6 : (Gt == Gt) = true := by simp
  generalize hnl : Lt.length = nl at *
  generalize hnm : Mt.length = nm at *
  have HNL := Hd.mk hnl
  have HNM := Hd.mk hnm
  have hu5 := o1.lt
  have hu1 : w1.heap.size < wB.heap.size := LF.out.br.lt
  have hu0 : w.heap.size < wB.heap.size := LF.out.bt.lt
  clear hwB o1 o2 hLt hMt hVt hfv hnl hnm C5 U5 V5 T5 R5 XS5 YS5 y0 y1 y2 b0 b1 b2 HGx HWX HWY HLX HLY HRX HRY gi gz0 gz1 gz2 hi hz0 hz1 hz2
  have KB0 : Hd (Below wB.heap.size wB wB) := ⟨Below.refl _ _⟩
  obtain ⟨p0, p1, p2⟩ := LF.out.bo.cell
  rw [HN.out] at p1
  rw [HM.out] at p2
  go_wp2_with fail
  refine (HSl.out _ (LF.out.below KB0.out).own).mono ?_
  rintro e s1 ⟨a1, c1, g1, rfl, f1, hb, G1, n1, _⟩
  have KB1 := Hd.mk (KB0.out.trans (hb.out.mono KB0.out.size))
  have hz1 : wB.heap.size ≤ s1.heap.size := KB1.out.size
  clear hb p0 p1 p2 f1
  obtain ⟨p0, p1, p2⟩ := (LF.out.below KB1.out).bo.cell
  rw [HN.out] at p1
  rw [HM.out] at p2
  go_wp2_with fail
  refine (HSl.out _ (LF.out.below KB1.out).own).mono ?_
  rintro e s2 ⟨a2, c2, g2, rfl, f2, hb, _, _, J2⟩
  have KB2 := Hd.mk (KB1.out.trans (hb.out.mono KB1.out.size))
  have G1b := Hd.mk (G1.out.below hb.out (by omega))
  have hz2 : s1.heap.size ≤ s2.heap.size := hb.out.size
  clear hb p0 p1 p2 G1 KB1
  obtain ⟨p0, p1, p2⟩ := (LF.out.below KB2.out).bo.cell
  rw [HN.out] at p1
  rw [HM.out] at p2
  go_wp2_with fail
  refine (HPt.out _ (LF.out.below KB2.out).own).mono ?_
  rintro e s3 ⟨a3, c3, g3, rfl, f3, hb, G3, n3, _⟩
  have KB3 := Hd.mk (KB2.out.trans (hb.out.mono KB2.out.size))
  have G1c := Hd.mk (G1b.out.below hb.out (by omega))
  have f2b := Hd.mk (f2.out.belowK hb.out)
  have hz3 : s2.heap.size ≤ s3.heap.size := hb.out.size
  clear hb p0 p1 p2 G1b KB2 f2 f3
  obtain ⟨p0, p1, p2⟩ := (LF.out.below KB3.out).bo.cell
  rw [HN.out] at p1
  rw [HM.out] at p2
  go_wp2_with fail
  refine (HPt.out _ (LF.out.below KB3.out).own).mono ?_
  rintro e s4 ⟨a4, c4, g4, rfl, f4, hb, _, _, J4⟩
  have KB4 := Hd.mk (KB3.out.trans (hb.out.mono KB3.out.size))
  have G1d := Hd.mk (G1c.out.below hb.out (by omega))
  have G3b := Hd.mk (G3.out.below hb.out (by omega))
  have f2c := Hd.mk (f2b.out.belowK hb.out)
  have hz4 : s3.heap.size ≤ s4.heap.size := hb.out.size
  clear hb p0 p1 p2 G1c G3 KB3 f2b
  obtain ⟨p0, p1, p2⟩ := (LF.out.below KB4.out).bo.cell
  rw [HN.out] at p1
  rw [HM.out] at p2
  go_wp2_with fail
  refine (HAt.out _ (LF.out.below KB4.out).own).mono ?_
  rintro e s5 ⟨rfl, hb⟩
  have KB5 := Hd.mk (KB4.out.trans (hb.mono KB4.out.size))
  have G1e := Hd.mk (G1d.out.below hb (by omega))
  have G3c := Hd.mk (G3b.out.below hb (by omega))
  have f2d := Hd.mk (f2c.out.belowK hb)
  have f4b := Hd.mk (f4.out.belowK hb)
  have hz5 : s4.heap.size ≤ s5.heap.size := hb.size
  clear hb p0 p1 p2 G1d G3b KB4 f2c f4 HSl HPt HAt
  go_wp2_with fail
  have G1h : Hd (0 < nl → wB.heap.size ≤ g1 ∧ g1 < s1.heap.size) := ⟨fun h => ⟨(G1e.out h).2.1, (G1e.out h).2.2.1⟩⟩
  have G3h : Hd (0 < nm → s2.heap.size ≤ g3 ∧ g3 < s3.heap.size) := ⟨fun h => ⟨(G3c.out h).2.1, (G3c.out h).2.2.1⟩⟩
  go_loopw [21] (fun iv wr => ∃ j : Nat, j ≤ nl ∧ iv = .int .i64 j ∧ Hd (OnlyN nl g1 s5 wr) ∧ Hd (OwnRow a1 g1 nl wB.heap.size s1.heap.size wr)) (fun iv _ => nl - (intOf iv).toNat)
  case atStart => exact ⟨0, Nat.zero_le _, rfl, ⟨OnlyN.refl _ _ _⟩, G1e⟩
  case round =>
    obtain ⟨j, hj, rfl, HOn, HOw⟩ := hrel
    by_cases hlt : j < nl
    · have hlt' : (j : Int) < nl := by omega
      have j0 : (0 : Int) ≤ j := by omega
      obtain ⟨q1, q2, q3, F, q4⟩ := HOw.out (by omega)
      subst q1
      have row := q4.cell hlt
      have frz := q4.frozen j
      have HO2 : Hd (OnlyN nl g1 s5 (wr.setCell ⟨g1, j, none⟩ (.float .f64 4619567317775286272))) := ⟨⟨fun h => by omega, fun h => (HOn.out.2 h).setCell j _⟩⟩
      have HW2 : Hd (OwnRow (some ⟨g1, 0, none⟩) g1 nl wB.heap.size s1.heap.size (wr.setCell ⟨g1, j, none⟩ (.float .f64 4619567317775286272))) := ⟨fun h => ⟨rfl, q2, q3, _, q4.set j _⟩⟩
      clear hlt q2 q3 q4 HOn HOw
      go_wp2_with fail
      exact ⟨⟨j + 1, by omega, by go_num, HO2, HW2⟩, by simp [intOf]; omega⟩
    have hge : ¬ (j : Int) < nl := by omega
    have HOn1 := HOn
    have HOw1 := HOw
    clear hlt hj HOn HOw G1e
    obtain ⟨s6, hs6⟩ : ∃ W, wr = W := ⟨_, rfl⟩
    rw [hs6] at HOn1 HOw1 ⊢
    clear hs6 wr
    have KB6 := Hd.mk (below_onlyN KB5.out HOn1.out (fun h => (G1h.out h).1) KB5.out.size)
    have f2e := Hd.mk (f2d.out.onlyN HOn1.out fun h b o v e => by have := (G1h.out h).2; have := (J2.out b o v e).1; omega)
    have f4c := Hd.mk (f4b.out.onlyN HOn1.out fun h b o v e => by have := (G1h.out h).2; have := (J4.out b o v e).1; omega)
    have hz6 : s5.heap.size ≤ s6.heap.size := by
      rcases Nat.eq_zero_or_pos nl with h0 | h0
      · rw [HOn1.out.1 h0]; exact Nat.le_refl _
      · exact (HOn1.out.2 h0).size
    have G3d : Hd (OwnRow a3 g3 nm s2.heap.size s3.heap.size s6) := ⟨fun h => by
      obtain ⟨x1, x2, x3, F, x4⟩ := G3c.out h
      refine ⟨x1, x2, x3, F, ?_⟩
      rcases Nat.eq_zero_or_pos nl with h0 | h0
      · rw [HOn1.out.1 h0]; exact x4
      · have := (G1h.out h0).2
        exact x4.of_block ((HOn1.out.2 h0).block g3 (by omega) (by omega))⟩
    clear f2d f4b G3c HOn1 HOw1 KB5
    go_wp2_with fail
    go_loopw [22] (fun iv wr => ∃ j : Nat, j ≤ nm ∧ iv = .int .i64 j ∧ Hd (OnlyN nm g3 s6 wr) ∧ Hd (OwnRow a3 g3 nm s2.heap.size s3.heap.size wr)) (fun iv _ => nm - (intOf iv).toNat)
    case atStart => exact ⟨0, Nat.zero_le _, rfl, ⟨OnlyN.refl _ _ _⟩, G3d⟩
    case round =>
      obtain ⟨j, hj, rfl, HOn, HOw⟩ := hrel
      by_cases hlt : j < nm
      · have hlt' : (j : Int) < nm := by omega
        have j0 : (0 : Int) ≤ j := by omega
        obtain ⟨q1, q2, q3, F, q4⟩ := HOw.out (by omega)
        subst q1
        have row := q4.cell hlt
        have frz := q4.frozen j
        have HO2 : Hd (OnlyN nm g3 s6 (wr.setCell ⟨g3, j, none⟩ (.float .f64 4619567317775286272))) := ⟨⟨fun h => by omega, fun h => (HOn.out.2 h).setCell j _⟩⟩
        have HW2 : Hd (OwnRow (some ⟨g3, 0, none⟩) g3 nm s2.heap.size s3.heap.size (wr.setCell ⟨g3, j, none⟩ (.float .f64 4619567317775286272))) := ⟨fun h => ⟨rfl, q2, q3, _, q4.set j _⟩⟩
        clear hlt q2 q3 q4 HOn HOw
        go_wp2_with fail
        exact ⟨⟨j + 1, by omega, by go_num, HO2, HW2⟩, by simp [intOf]; omega⟩
      have hge : ¬ (j : Int) < nm := by omega
      have HOn3 := HOn
      have HOw3 := HOw
      clear hlt hj HOn HOw G3d
      obtain ⟨s7, hs7⟩ : ∃ W, wr = W := ⟨_, rfl⟩
      rw [hs7] at HOn3 HOw3 ⊢
      clear hs7 wr
      have KB7 := Hd.mk (below_onlyN KB6.out HOn3.out (fun h => by have := (G3h.out h).1; omega) KB6.out.size)
      have f2f := Hd.mk (f2e.out.onlyN HOn3.out fun h b o v e => by have := (G3h.out h).1; have := (J2.out b o v e).2; omega)
      have f4d := Hd.mk (f4c.out.onlyN HOn3.out fun h b o v e => by have := (G3h.out h).2; have := (J4.out b o v e).1; omega)
      clear f2e f4c HOn3 HOw3 KB6 J2 J4 G1h G3h
      obtain ⟨r0, r1, r2⟩ := (LF.out.below KB7.out).br.cell
      rw [HN.out] at r1
      rw [HM.out] at r2
      go_wp2_with fail
      refine (HRS.out _ (LF.out.below KB7.out).tr).mono ?_
      rintro e s8 ⟨a5, c5, rfl, f5, hb⟩
      have KB8 := Hd.mk (KB7.out.trans (hb.out.mono KB7.out.size))
      have f2g := Hd.mk (f2f.out.belowK hb.out)
      have f4e := Hd.mk (f4d.out.belowK hb.out)
      clear hb r0 r1 r2 f2f f4d KB7
      obtain ⟨r0, r1, r2⟩ := (LF.out.below KB8.out).br.cell
      rw [HN.out] at r1
      rw [HM.out] at r2
      go_wp2_with fail
      refine (HRP.out _ (LF.out.below KB8.out).tr).mono ?_
      rintro e s9 ⟨a6, c6, rfl, f6, hb⟩
      have KB9 := Hd.mk (KB8.out.trans (hb.out.mono KB8.out.size))
      have f2h := Hd.mk (f2g.out.belowK hb.out)
      have f4f := Hd.mk (f4e.out.belowK hb.out)
      have f5b := Hd.mk (f5.out.below hb.out)
      clear hb r0 r1 r2 f2g f4e f5 KB8
      obtain ⟨r0, r1, r2⟩ := (LF.out.below KB9.out).br.cell
      rw [HN.out] at r1
      rw [HM.out] at r2
      go_wp2_with fail
      refine (HRA.out _ (LF.out.below KB9.out).tr).mono ?_
      rintro e s10 ⟨rfl, hb⟩
      have KB10 := Hd.mk (KB9.out.trans (hb.mono KB9.out.size))
      have f2i := Hd.mk (f2h.out.belowK hb)
      have f4g := Hd.mk (f4f.out.belowK hb)
      have f5c := Hd.mk (f5b.out.below hb)
      have f6b := Hd.mk (f6.out.below hb)
      clear hb r0 r1 r2 f2h f4f f5b f6 KB9 HRS HRP HRA
      go_wp2_with fail
      go_loopw [29] (fun iv wr => ∃ j : Nat, j ≤ n ∧ iv = .int .i64 j ∧ Hd (Below s10.heap.size s10 wr)) (fun iv _ => n - (intOf iv).toNat)
      case atStart => exact ⟨0, Nat.zero_le _, rfl, ⟨Below.refl _ _⟩⟩
      case round =>
        obtain ⟨j, hj, rfl, KW⟩ := hrel
        have FL := Hd.mk ((LF.out.below KB10.out).below KW.out)
        obtain ⟨t0, t1, t2⟩ := FL.out.bt.cell
        rw [HN.out] at t1
        rw [HM.out] at t2
        by_cases hlt : j < n
        · have hlt' : (j : Int) < n := by omega
          have j0 : (0 : Int) ≤ j := by omega
          have hlt2 : (j : Int) < ((n + 2 : Nat) : Int) := by omega
          have hlt3 : j < n + 2 := by omega
          obtain ⟨bx, ox, hax, x1⟩ := FL.out.tx.ix.cell j (by rw [HN.out]; exact hlt)
          have x2 : wr.cell? ⟨gx, j, none⟩ = some (.int .i64 (X.getD j 0)) := by
            obtain ⟨b', o', e1, e2⟩ := FL.out.xs.cell j (by unfold xsT; rw [List.length_append, HN.out]; omega)
            cases e1
            rw [Nat.zero_add] at e2
            rw [e2]; unfold xsT; rw [getD_appZ _ _ _ (by rw [HN.out]; exact hlt)]
          rw [hax] at t1
          generalize X.getD j 0 = xv at *
          have xe : (xv != xv) = false := by simp
          clear hlt FL
          go_wp2_with fail
          go_quiet (fail)
          go_wp2_with fail
          exact ⟨⟨j + 1, by omega, by go_num, ⟨below_drewN KW.out _⟩⟩, by simp [intOf]; omega⟩
        have hge : ¬ (j : Int) < n := by omega
        have KW3 := Hd.mk KW.out
        obtain ⟨s11, hs11⟩ : ∃ W, wr = W := ⟨_, rfl⟩
        rw [hs11] at KW3 t0 t1 t2 ⊢
        clear hlt hj KW FL hs11 wr
        go_wp2_with fail
        clear t0 t1 t2
        go_loopw [30] (fun iv wr => ∃ j : Nat, j ≤ m ∧ iv = .int .i64 j ∧ Hd (Below s10.heap.size s10 wr)) (fun iv _ => m - (intOf iv).toNat)
        case atStart => exact ⟨0, Nat.zero_le _, rfl, KW3⟩
        case round =>
          clear KW3
          obtain ⟨j, hj, rfl, KW⟩ := hrel
          have FL := Hd.mk ((LF.out.below KB10.out).below KW.out)
          obtain ⟨t0, t1, t2⟩ := FL.out.bt.cell
          rw [HN.out] at t1
          rw [HM.out] at t2
          by_cases hlt : j < m
          · have hlt' : (j : Int) < m := by omega
            have j0 : (0 : Int) ≤ j := by omega
            have hlt2 : (j : Int) < ((m + 2 : Nat) : Int) := by omega
            have hlt3 : j < m + 2 := by omega
            obtain ⟨r0, r1, r2⟩ := FL.out.br.cell
            rw [HN.out] at r1
            rw [HM.out] at r2
            have hU := FL.out.tr.uy (by rw [HM.out]; omega)
            obtain ⟨bu, ou, hau, u1⟩ : ∃ b o, au = some ⟨b, o, none⟩ ∧ wr.cell? ⟨b, o + j, none⟩ = some (.int .u64 (Y.getD j 0 : Nat)) := by
              cases hau : au with
              | none => have := hU.nil hau; rw [this] at HM; have := HM.out; simp at this; omega
              | some p =>
                obtain ⟨b, o, v⟩ := p
                obtain ⟨e1, e2⟩ := hU.cell b o v hau j (by rw [HM.out]; exact hlt)
                subst e1
                exact ⟨b, o, rfl, e2⟩
            have x2 : wr.cell? ⟨gy, j, none⟩ = some (.float .f64 (Y.getD j 0)) := by
              obtain ⟨e1, e2⟩ := FL.out.ys.cell gy 0 none rfl j (by unfold ysT; rw [List.length_append, HM.out]; omega)
              rw [Nat.zero_add] at e2
              rw [e2]; unfold ysT; rw [getD_app _ _ _ (by rw [HM.out]; exact hlt)]
            rw [hau] at r2
            generalize Y.getD j 0 = yv at *
            have xe : (((yv : Nat) : Int) != ((yv : Nat) : Int)) = false := by simp
            clear hlt FL hU
            go_wp2_with fail
            go_quiet ((go_at_call 16; exact Calls.quiet_of_same ((apiBits_any _ _).mono fun _ _ h => ⟨h.1, h.2.symm⟩)))
            go_wp2_with fail
            exact ⟨⟨j + 1, by omega, by go_num, ⟨below_drewN KW.out _⟩⟩, by simp [intOf]; omega⟩
          have hge : ¬ (j : Int) < m := by omega
          have KW4 := Hd.mk KW.out
          obtain ⟨s12, hs12⟩ : ∃ W, wr = W := ⟨_, rfl⟩
          rw [hs12] at KW4 FL t0 t1 t2 ⊢
          have g1x : s12.cell? ⟨gx, n, none⟩ = some (.int .i64 7701) := by
            obtain ⟨b', o', e1, e2⟩ := FL.out.xs.cell n (by unfold xsT; rw [List.length_append, HN.out]; simp)
            cases e1
            rw [Nat.zero_add] at e2
            rw [e2, ← HN.out]; unfold xsT; simp
          have g2x : s12.cell? ⟨gx, n + 1, none⟩ = some (.int .i64 7702) := by
            obtain ⟨b', o', e1, e2⟩ := FL.out.xs.cell (n + 1) (by unfold xsT; rw [List.length_append, HN.out]; simp)
            cases e1
            rw [Nat.zero_add] at e2
            rw [e2, ← HN.out]; unfold xsT; simp
          have g1y : s12.cell? ⟨gy, m, none⟩ = some (.float .f64 4665191552769851392) := by
            obtain ⟨e1, e2⟩ := FL.out.ys.cell gy 0 none rfl m (by unfold ysT; rw [List.length_append, HM.out]; simp)
            rw [Nat.zero_add] at e2
            rw [e2, ← HM.out]; unfold ysT; simp
          have g2y : s12.cell? ⟨gy, m + 1, none⟩ = some (.float .f64 4665192652281479168) := by
            obtain ⟨e1, e2⟩ := FL.out.ys.cell gy 0 none rfl (m + 1) (by unfold ysT; rw [List.length_append, HM.out]; simp)
            rw [Nat.zero_add] at e2
            rw [e2, ← HM.out]; unfold ysT; simp
          have h1 := Hd.mk (f2i.out.belowK KW4.out)
          have h2 := Hd.mk (f4g.out.belowK KW4.out)
          have h3 := Hd.mk (f5c.out.below KW4.out)
          have h4 := Hd.mk (f6b.out.below KW4.out)
          have CF := Hd.mk FL.out.c
          clear hlt hj KW FL hs12 wr KW4 f2i f4g f5c f6b LF KB10
          have o1 : (FloatKind.f64.format.order 4665191552769851392 4665191552769851392 != some .eq) = false := by decide +kernel
          have o2 : (FloatKind.f64.format.order 4665192652281479168 4665192652281479168 != some .eq) = false := by decide +kernel
          have n1 : (n : Int) < ((n + 2 : Nat) : Int) := by omega
          have n2 : (n : Int) + 1 < ((n + 2 : Nat) : Int) := by omega
          have n3 : (0 : Int) ≤ (n : Int) := by omega
          have n4 : (0 : Int) ≤ (n : Int) + 1 := by omega
          have n5 : ((n : Int) + 1).toNat = n + 1 := by omega
          have m1 : (m : Int) < ((m + 2 : Nat) : Int) := by omega
          have m2 : (m : Int) + 1 < ((m + 2 : Nat) : Int) := by omega
          have m3 : (0 : Int) ≤ (m : Int) := by omega
          have m4 : (0 : Int) ≤ (m : Int) + 1 := by omega
          have m5 : ((m : Int) + 1).toNat = m + 1 := by omega
          go_wp2_with fail
          refine (HA1.out _ _ _ _ _ h1.out h3.out).mono ?_; rintro e s13 ⟨rfl, q, hq⟩
          subst hq
          go_wp2_with fail
          refine (HA2.out _ _ _ _ _ (h2.out.belowK (below_drewN (Below.refl _ _) q)) (h4.out.below (below_drewN (Below.refl _ _) q))).mono ?_; rintro e s14 ⟨rfl, q2, hq⟩
          subst hq
          have C7 := Hd.mk (below_drewN CF.out (q + q2))
          go_wp2_with fail
          refine (HIs.out _).mono ?_; rintro e s15 ⟨rfl, rfl⟩
          go_wp2_with fail
          refine (awake10_any _).mono ?_; rintro e s16 ⟨rfl, hb⟩
          have C8 := Hd.mk (C7.out.trans (hb.mono C7.out.size))
          clear hb
          go_wp2_with fail
          go_ret
          exact ⟨rfl, C8.out⟩

end Go.Proofs.YtmmcnjoeepgpgaaGreat
