/-
  PLAIN LAWS of what Solve finds with all variables labeled; no program.
  Solve with all variables labeled; LabelOptions.
-/
import Derived.Test.YtaekdgikgbdnnaaGreatKsol7
import Derived.Deep.RegionHeld3
import Derived.Handy
namespace Go.Proofs.YtaekdgikgbdnnaaGreat

theorem fine_lin {p : PL} {ds : Ds} (h : p.Fine ds) : p.Lin ds.length := ⟨h.good, fun hk => (h.lin hk).2.1⟩
theorem nodesN_small {ds : Ds} (h : prodI ds ≤ 200) : nodesN ds ≤ 10000 := by
  have := prodI_eq ds
  unfold nodesN
  split <;> omega
theorem right19_ok {ds : Ds} {ps : List PL} (h : right19 ds ps = true) : FixIn ds ps ∧ fixChk ds.length ps = 0 ∧ ds.length ≤ 4 ∧ prodI ds ≤ 200 ∧ (∀ d ∈ ds, d.length ≤ 4 ∧ sizeL (norm d) ≤ 60) := by
  have h1 := h
  unfold right19 at h1
  rw [Bool.and_eq_true, Bool.not_eq_true', decide_eq_true_eq] at h1
  obtain ⟨_, a, b, c, _⟩ := many19_17 h1.1
  exact ⟨right17_in (right19_17 h), h1.2, a, b, c⟩
theorem every_len {ds : Ds} {ps : List PL} (h : prodI ds ≤ 200) : (everyL ds ps).length ≤ 200 := by
  have h1 : (everyL ds ps).length ≤ (prodL ds).length := List.length_filter_le _ _
  rw [prodL_card] at h1
  have := prodI_eq ds
  omega
/-- all answers -/
noncomputable def allF (ds : Ds) (ps : List PL) (o : SOpt) : List (List Int) := (find ps (allV ds.length) o 10000 [ds]).1
theorem allF_ok {ds : Ds} {ps : List PL} {o : SOpt} (h : right19 ds ps = true) (ho : o.ord = 0 ∨ o.ord = 1) (hb : o.br = 0 ∨ o.br = 1) :
    (find ps (allV ds.length) o 10000 [ds]).2 = false ∧ (∀ x, x ∈ allF ds ps o ↔ x ∈ everyL ds ps) ∧ (allF ds ps o).Nodup ∧ (allF ds ps o).length = (everyL ds ps).length ∧ (allF ds ps o).length ≤ 200 := by
  obtain ⟨hin, _, _, hpr, _⟩ := right19_ok h
  have hg : ∀ p ∈ ps, p.Lin ds.length := fun p hp => fine_lin (hin.fine p hp)
  obtain ⟨a1, a2, a3⟩ := find_all (o := o) hg ho hb 10000 [ds] (fun E hE => by rw [List.mem_singleton.1 hE]) (by simpa using nodesN_small hpr)
  have hm : ∀ x, x ∈ allF ds ps o ↔ x ∈ everyL ds ps := fun x => by
    rw [every_mem]
    unfold allF
    rw [a2 x]
    simp
  have hn : (allF ds ps o).Nodup := a3 (List.pairwise_singleton _ _)
  have hl : (allF ds ps o).length = (everyL ds ps).length := Nat.le_antisymm (nodup_len_le _ _ hn (fun x hx => (hm x).1 hx)) (nodup_len_le _ _ (every_nodup ds ps) (fun x hx => (hm x).2 hx))
  exact ⟨a1, hm, hn, hl, by rw [hl]; exact every_len hpr⟩
/-- what Solve comes to, of so many -/
theorem findR_all {ds : Ds} {ps : List PL} {o : SOpt} (h : right19 ds ps = true) (ho : o.ord = 0 ∨ o.ord = 1) (hb : o.br = 0 ∨ o.br = 1) (m : Nat) :
    (findR ps (allV ds.length) o m 10000 [ds]).2.2 = false ∧ (findR ps (allV ds.length) o m 10000 [ds]).1 = (allF ds ps o).take m := by
  obtain ⟨a1, _⟩ := allF_ok h ho hb
  obtain ⟨b1, b2⟩ := findR_M ps (allV ds.length) o 10000 m [ds]
  obtain ⟨c1, c2, c3⟩ := findM_eq ps (allV ds.length) o 10000 m [ds]
  refine ⟨?_, by rw [b1, c1]; rfl⟩
  rw [b2]
  rcases Nat.lt_or_ge (find ps (allV ds.length) o 10000 [ds]).1.length m with hl | hl
  · rw [c3 hl, a1]
  · exact c2 hl
theorem allF_order {ds : Ds} {ps : List PL} {o : SOpt} (h : right19 ds ps = true) (ho : o.ord = 0 ∨ o.ord = 1) (hb : o.br = 0 ∨ o.br = 1) (hs : o.sel = 0) : (allF ds ps o).Pairwise (inOrder o.ord) := by
  obtain ⟨hin, _, _, hpr, _⟩ := right19_ok h
  exact find_order (fun p hp => fine_lin (hin.fine p hp)) ho hb hs 10000 [ds] (fun E hE => by rw [List.mem_singleton.1 hE]) (by simpa using nodesN_small hpr) (List.pairwise_singleton _ _)
theorem allF_rise {ds : Ds} {ps : List PL} {o : SOpt} (h : right19 ds ps = true) (ho : o.ord = 0) (hb : o.br = 0 ∨ o.br = 1) (hs : o.sel = 0) : allF ds ps o = everyL ds ps := by
  have h1 := allF_order h (.inl ho) hb hs
  refine order_unique ?_ (every_order ds ps) (allF_ok h (.inl ho) hb).2.1
  exact h1.imp (fun hxy => by unfold inOrder at hxy; rw [ho, if_neg (by decide)] at hxy; exact hxy)
theorem allF_fall {ds : Ds} {ps : List PL} {o : SOpt} (h : right19 ds ps = true) (ho : o.ord = 1) (hb : o.br = 0 ∨ o.br = 1) (hs : o.sel = 0) : allF ds ps o = (everyL ds ps).reverse := by
  have h1 := allF_order h (.inr ho) hb hs
  have h2 : (allF ds ps o).reverse = everyL ds ps := by
    refine order_unique ?_ (every_order ds ps) (fun x => by rw [List.mem_reverse]; exact (allF_ok h (.inr ho) hb).2.1 x)
    rw [List.pairwise_reverse]
    exact h1.imp (fun hxy => by unfold inOrder at hxy; rw [ho, if_pos rfl] at hxy; exact hxy)
  rw [← h2, List.reverse_reverse]
theorem allV_in (n : Nat) : (∀ v ∈ allV n, 0 ≤ v ∧ v.toNat < n) := fun v hv => by
  unfold allV at hv
  obtain ⟨j, hj, rfl⟩ := List.mem_map.1 hv
  have := List.mem_range.1 hj
  exact ⟨by simp, by simpa using this⟩
end Go.Proofs.YtaekdgikgbdnnaaGreat
namespace Go.Proofs.YtaekdgikgbdnnaaGreat
open Go.RowKit

theorem solveAllN_c (vds vps va vw : Value) (o : SOpt) (ds : Ds) (ps : List PL) (most : Nat) (w : World) (hd : DsAt w vds ds) (hp : PsAt w vps ps) (hv : IsAt w va (allV ds.length)) (hw : IsAt w vw o.ws)
    (hr : right19 ds ps = true) (hlc : labChk o.sel o.ord o.br o.ws.length = 0) (h1 : 1 ≤ most) (h2 : most ≤ 1000) :
    Calls Tryz.prog 13 #[vds, vps, va, .agg #[.int .i64 o.sel, .int .i64 o.ord, .int .i64 o.br, vw], .int .i64 (most : Int), .int .i64 10000] w fun e w' =>
      ∃ ao co, e = .returned (.tuple #[.slice ao ((allF ds ps o).take most).length co, .int .i64 0]) ∧ LsFrom w.heap.size w' (.slice ao ((allF ds ps o).take most).length co) ((allF ds ps o).take most) ∧ Below w.heap.size w w' := by
  obtain ⟨hin, hfc, h4, _, _⟩ := right19_ok hr
  obtain ⟨_, hor, hbr⟩ := labChk_sound hlc
  obtain ⟨e1, e2⟩ := findR_all hr hor hbr most (o := o)
  refine (solve_ok vds vps va vw o ds ps (allV ds.length) most 10000 w hd hp hv hw hin hlc hfc (by rw [allV_len]; omega) (allV_in _) h1 h2 (by decide) (by decide)).mono fun e w' ⟨hb, hh⟩ => ?_
  rcases hh with ⟨h, _⟩ | ⟨_, ao, co, he, hl⟩
  · rw [e1] at h; cases h
  · rw [e2] at he hl
    exact ⟨ao, co, he, hl, hb⟩
theorem solveAll_c (vds vps va vw : Value) (o : SOpt) (ds : Ds) (ps : List PL) (most : Nat) (w : World) (hd : DsAt w vds ds) (hp : PsAt w vps ps) (hv : IsAt w va (allV ds.length)) (hw : IsAt w vw o.ws)
    (hr : right19 ds ps = true) (hlc : labChk o.sel o.ord o.br o.ws.length = 0) (h1 : 1 ≤ most) (h2 : most ≤ 1000) :
    Calls Tryz.prog 13 #[vds, vps, va, .agg #[.int .i64 o.sel, .int .i64 o.ord, .int .i64 o.br, vw], .int .i64 (most : Int), .int .i64 10000] w fun e w' =>
      ∃ ao co, e = .returned (.tuple #[.slice ao ((allF ds ps o).take most).length co, .int .i64 0]) ∧ LsAt w' (.slice ao ((allF ds ps o).take most).length co) ((allF ds ps o).take most) ∧ Below w.heap.size w w' :=
  (solveAllN_c vds vps va vw o ds ps most w hd hp hv hw hr hlc h1 h2).mono fun _ _ ⟨ao, co, he, hl, hb⟩ => ⟨ao, co, he, hl.at, hb⟩
theorem allF_take {ds : Ds} {ps : List PL} {o : SOpt} (h : right19 ds ps = true) (hlc : labChk o.sel o.ord o.br o.ws.length = 0) : (allF ds ps o).take 1000 = allF ds ps o := by
  obtain ⟨_, hor, hbr⟩ := labChk_sound hlc
  have := (allF_ok h hor hbr).2.2.2.2
  exact List.take_of_length_le (by omega)
theorem optBad_c (sel ord br : Int) (w : World) (h : labChk sel ord br 0 = 190) : Calls Tryz.prog 12 #[.agg #[.int .i64 sel, .int .i64 ord, .int .i64 br, .slice none 0 0]] w fun e w' => e = .returned (.int .i64 190) ∧ Below w.heap.size w w' := by
  have := labCheck_c sel ord br none 0 0 w
  rwa [h] at this

set_option maxRecDepth 1000000 in
set_option maxHeartbeats 6400000 in
theorem labelOptions_any (vds vps v1 v2 : Value) (o p : SOpt) (ds : Ds) (ps : List PL) (w : World) (hd : DsAt w vds ds) (hp : PsAt w vps ps) (hw1 : IsAt w v1 o.ws) (hw2 : IsAt w v2 p.ws) :
    Calls Tryz.prog 3 #[.agg #[vds, vps], .agg #[.int .i64 o.sel, .int .i64 o.ord, .int .i64 o.br, v1], .agg #[.int .i64 p.sel, .int .i64 p.ord, .int .i64 p.br, v2]] w fun e w' => e = .returned (.bool true) ∧ Below w.heap.size w w' := by
  obtain ⟨a0, c0, rfl, _⟩ := hd.shape
  obtain ⟨a1, c1, rfl, _⟩ := hp.shape
  obtain ⟨a2, c2, rfl, _⟩ := hw1.shape'
  obtain ⟨a3, c3, rfl, _⟩ := hw2.shape'
  obtain ⟨W0, hW0⟩ : ∃ W0, W0 = ((w.alloc (.cells #[.slice a0 ds.length c0, .slice a1 ps.length c1] 25)).alloc (.cells #[.int .i64 o.sel, .int .i64 o.ord, .int .i64 o.br, .slice a2 o.ws.length c2] 28)).alloc (.cells #[.int .i64 p.sel, .int .i64 p.ord, .int .i64 p.br, .slice a3 p.ws.length c3] 28) := ⟨_, rfl⟩
  have hb0 : Below w.heap.size w W0 := by rw [hW0]; exact (((Below.refl _ w).alloc (Nat.le_refl _) _).alloc (by simp) _).alloc (by simp; omega) _
  have hs0 : W0.heap.size = w.heap.size + 3 := by rw [hW0]; simp
  have hL1 : BoxL W0 w.heap.size [.slice a0 ds.length c0, .slice a1 ps.length c1] := by
    rw [hW0]
    exact (BoxL.mk' w #[.slice a0 ds.length c0, .slice a1 ps.length c1] _).below (((Below.refl _ _).alloc (Nat.le_refl _) _).alloc (by simp) _) (by simp)
  have hL2 : BoxL W0 (w.heap.size + 1) [.int .i64 o.sel, .int .i64 o.ord, .int .i64 o.br, .slice a2 o.ws.length c2] := by
    have h := BoxL.mk' (w.alloc (.cells #[.slice a0 ds.length c0, .slice a1 ps.length c1] 25)) #[.int .i64 o.sel, .int .i64 o.ord, .int .i64 o.br, .slice a2 o.ws.length c2] 28
    rw [show (w.alloc (.cells #[.slice a0 ds.length c0, .slice a1 ps.length c1] 25)).heap.size = w.heap.size + 1 by simp] at h
    rw [hW0]
    exact h.below ((Below.refl _ _).alloc (Nat.le_refl _) _) (by simp)
  have hL3 : BoxL W0 (w.heap.size + 1 + 1) [.int .i64 p.sel, .int .i64 p.ord, .int .i64 p.br, .slice a3 p.ws.length c3] := by
    have h := BoxL.mk' ((w.alloc (.cells #[.slice a0 ds.length c0, .slice a1 ps.length c1] 25)).alloc (.cells #[.int .i64 o.sel, .int .i64 o.ord, .int .i64 o.br, .slice a2 o.ws.length c2] 28)) #[.int .i64 p.sel, .int .i64 p.ord, .int .i64 p.br, .slice a3 p.ws.length c3] 28
    rw [show ((w.alloc (.cells #[.slice a0 ds.length c0, .slice a1 ps.length c1] 25)).alloc (.cells #[.int .i64 o.sel, .int .i64 o.ord, .int .i64 o.br, .slice a2 o.ws.length c2] 28)).heap.size = w.heap.size + 1 + 1 by simp] at h
    rw [hW0]; exact h
  have HB0 := Lib.hid hb0
  have HL1 := Lib.hid hL1
  have HL2 := Lib.hid hL2
  have HL3 := Lib.hid hL3
  have HW := Lib.hid hW0.symm
  have HD := Lib.hid hd
  have HP := Lib.hid hp
  have HO := Lib.hid hw1
  have HQ := Lib.hid hw2
  clear hb0 hL1 hL2 hL3 hW0 hd hp hw1 hw2
  have HC : Hid (∀ W, Below W0.heap.size W0 W → W.cell? ⟨w.heap.size, 0, none⟩ = some (.slice a0 ds.length c0) ∧ W.cell? ⟨w.heap.size, 1, none⟩ = some (.slice a1 ps.length c1) ∧
      W.cell? ⟨w.heap.size + 1, 0, none⟩ = some (.int .i64 o.sel) ∧ W.cell? ⟨w.heap.size + 1, 1, none⟩ = some (.int .i64 o.ord) ∧ W.cell? ⟨w.heap.size + 1, 2, none⟩ = some (.int .i64 o.br) ∧ W.cell? ⟨w.heap.size + 1, 3, none⟩ = some (.slice a2 o.ws.length c2) ∧
      W.cell? ⟨w.heap.size + 1 + 1, 0, none⟩ = some (.int .i64 p.sel) ∧ W.cell? ⟨w.heap.size + 1 + 1, 1, none⟩ = some (.int .i64 p.ord) ∧ W.cell? ⟨w.heap.size + 1 + 1, 2, none⟩ = some (.int .i64 p.br) ∧ W.cell? ⟨w.heap.size + 1 + 1, 3, none⟩ = some (.slice a3 p.ws.length c3)) := fun W h =>
    have e1 := HL1.out.below h (by omega)
    have e2 := HL2.out.below h (by omega)
    have e3 := HL3.out.below h (by omega)
    ⟨(e1.get 0 rfl).1, (e1.get 1 rfl).1, (e2.get 0 rfl).1, (e2.get 1 rfl).1, (e2.get 2 rfl).1, (e2.get 3 rfl).1, (e3.get 0 rfl).1, (e3.get 1 rfl).1, (e3.get 2 rfl).1, (e3.get 3 rfl).1⟩
  obtain ⟨z0, z1, z2, z3, z4, z5, z6, z7, z8, z9⟩ := HC.out W0 (Below.refl _ _)
  have CR := Lib.hid (right19_c _ _ ds ps W0 (HD.out.below HB0.out) (HP.out.below HB0.out))
  have CBAD : Hid (∀ W, Calls Tryz.prog 12 #[.agg #[.int .i64 5, .int .i64 0, .int .i64 0, .slice none 0 0]] W fun e w' => e = .returned (.int .i64 190) ∧ Below W.heap.size W w') := fun W => optBad_c 5 0 0 W rfl
  cases hr : right19 ds ps with
  | false =>
    rw [hr] at CR
    clear hr
    go_enter Tryz.func3, Tryz.ntmps3
    go_upto_region 1 with fail
    rw [HW.out]
    go_wp2_with (first
      | (go_at_call 10; (with_reducible refine CR.out.mono ?_); rintro e W1 ⟨rfl, bb⟩; have B1 := Lib.hid (HB0.out.trans (bb.mono HB0.out.size)); clear bb)
      | (go_at_call 12; (with_reducible refine (CBAD.out _).mono ?_); rintro e W2 ⟨rfl, bb⟩; have B2 := Lib.hid (B1.out.trans (bb.mono B1.out.size)); clear bb))
    go_ret
    exact ⟨rfl, B2.out⟩
  | true =>
    rw [hr] at CR
    have HR := Lib.hid hr
    clear hr
    have CK1 := Lib.hid (refLabCheck_c o.sel o.ord o.br a2 o.ws.length c2)
    have CK2 := Lib.hid (refLabCheck_c p.sel p.ord p.br a3 p.ws.length c3)
    by_cases h1 : 100 < o.ws.length
    · go_enter Tryz.func3, Tryz.ntmps3
      go_upto_region 1 with fail
      rw [HW.out]
      go_wp2_with (first
        | (go_at_call 10; (with_reducible refine CR.out.mono ?_); rintro e W1 ⟨rfl, bb⟩; have P1 := Lib.hid bb; obtain ⟨y0, y1, y2, y3, y4, y5, y6, y7, y8, y9⟩ := HC.out _ bb; clear bb)
        | (go_at_call 12; (with_reducible refine (CBAD.out _).mono ?_); rintro e WB ⟨rfl, bb⟩; have PB := Lib.hid (HB0.out.trans ((P1.out.trans (bb.mono P1.out.size)).mono HB0.out.size)); clear bb))
      go_ret
      exact ⟨rfl, PB.out⟩
    by_cases h2 : 100 < p.ws.length
    · go_enter Tryz.func3, Tryz.ntmps3
      go_upto_region 1 with fail
      rw [HW.out]
      go_wp2_with (first
        | (go_at_call 10; (with_reducible refine CR.out.mono ?_); rintro e W1 ⟨rfl, bb⟩; have P1 := Lib.hid bb; obtain ⟨y0, y1, y2, y3, y4, y5, y6, y7, y8, y9⟩ := HC.out _ bb; clear bb)
        | (go_at_call 12; (with_reducible refine (CBAD.out _).mono ?_); rintro e WB ⟨rfl, bb⟩; have PB := Lib.hid (HB0.out.trans ((P1.out.trans (bb.mono P1.out.size)).mono HB0.out.size)); clear bb))
      go_ret
      exact ⟨rfl, PB.out⟩
    cases hk1 : decide (labChk o.sel o.ord o.br o.ws.length = 0) with
    | false =>
      have hk1' : (labChk o.sel o.ord o.br o.ws.length != 0) = true := by simpa using hk1
      clear hk1
      generalize labChk o.sel o.ord o.br o.ws.length = kk at *
      go_enter Tryz.func3, Tryz.ntmps3
      go_upto_region 1 with fail
      rw [HW.out]
      go_wp2_with (first
        | (go_at_call 10; (with_reducible refine CR.out.mono ?_); rintro e W1 ⟨rfl, bb⟩; have P1 := Lib.hid bb; obtain ⟨y0, y1, y2, y3, y4, y5, y6, y7, y8, y9⟩ := HC.out _ bb; clear bb)
        | (go_at_call 11; (with_reducible refine (CK1.out _).mono ?_); rintro e W2 ⟨rfl, bb⟩; have P2 := Lib.hid (P1.out.trans (bb.mono P1.out.size)); obtain ⟨x0, x1, x2, x3, x4, x5, x6, x7, x8, x9⟩ := HC.out _ P2.out; clear bb)
        | (go_at_call 12; (with_reducible refine (CBAD.out _).mono ?_); rintro e WB ⟨rfl, bb⟩; have PB := Lib.hid (HB0.out.trans ((P2.out.trans (bb.mono P2.out.size)).mono HB0.out.size)); clear bb))
      go_ret
      exact ⟨rfl, PB.out⟩
    | true =>
      have hk1 := of_decide_eq_true hk1
      have HK1 := Lib.hid hk1
      rw [hk1] at CK1
      clear hk1
      cases hk2 : decide (labChk p.sel p.ord p.br p.ws.length = 0) with
      | false =>
        have hk2' : (labChk p.sel p.ord p.br p.ws.length != 0) = true := by simpa using hk2
        clear hk2
        generalize labChk p.sel p.ord p.br p.ws.length = kk at *
        go_enter Tryz.func3, Tryz.ntmps3
        go_upto_region 1 with fail
        rw [HW.out]
        go_wp2_with (first
          | (go_at_call 10; (with_reducible refine CR.out.mono ?_); rintro e W1 ⟨rfl, bb⟩; have P1 := Lib.hid bb; obtain ⟨y0, y1, y2, y3, y4, y5, y6, y7, y8, y9⟩ := HC.out _ bb; clear bb)
          | (go_at_call 11; (with_reducible refine (CK1.out _).mono ?_); rintro e W2 ⟨rfl, bb⟩; have P2 := Lib.hid (P1.out.trans (bb.mono P1.out.size)); obtain ⟨x0, x1, x2, x3, x4, x5, x6, x7, x8, x9⟩ := HC.out _ P2.out; clear bb)
          | (go_at_call 11; (with_reducible refine (CK2.out _).mono ?_); rintro e W3 ⟨rfl, bb⟩; have P3 := Lib.hid (P2.out.trans (bb.mono P2.out.size)); obtain ⟨u0, u1, u2, u3, u4, u5, u6, u7, u8, u9⟩ := HC.out _ P3.out; clear bb)
          | (go_at_call 12; (with_reducible refine (CBAD.out _).mono ?_); rintro e WB ⟨rfl, bb⟩; have PB := Lib.hid (HB0.out.trans ((P3.out.trans (bb.mono P3.out.size)).mono HB0.out.size)); clear bb))
        go_ret
        exact ⟨rfl, PB.out⟩
      | true =>
        have hk2 := of_decide_eq_true hk2
        have HK2 := Lib.hid hk2
        rw [hk2] at CK2
        clear hk2
        go_enter Tryz.func3, Tryz.ntmps3
        go_upto_region 1 with fail
        rw [HW.out]
        go_upto_region 3 with (first
          | (go_at_call 10; (with_reducible refine CR.out.mono ?_); rintro e W1 ⟨rfl, bb⟩; have P1 := Lib.hid bb; obtain ⟨y0, y1, y2, y3, y4, y5, y6, y7, y8, y9⟩ := HC.out _ bb; clear bb)
          | (go_at_call 11; (with_reducible refine (CK1.out _).mono ?_); rintro e W2 ⟨rfl, bb⟩; have P2 := Lib.hid (P1.out.trans (bb.mono P1.out.size)); obtain ⟨x0, x1, x2, x3, x4, x5, x6, x7, x8, x9⟩ := HC.out _ P2.out; clear bb)
          | (go_at_call 11; (with_reducible refine (CK2.out _).mono ?_); rintro e W3 ⟨rfl, bb⟩; have P3 := Lib.hid (P2.out.trans (bb.mono P2.out.size)); obtain ⟨u0, u1, u2, u3, u4, u5, u6, u7, u8, u9⟩ := HC.out _ P3.out; clear bb))
        obtain ⟨_, hor1, hbr1⟩ := labChk_sound HK1.out
        obtain ⟨_, hor2, hbr2⟩ := labChk_sound HK2.out
        have hf1 := allF_ok HR.out hor1 hbr1
        have hf2 := allF_ok HR.out hor2 hbr2
        have hl1 : (allF ds ps o).length ≤ 200 := hf1.2.2.2.2
        have HLE : Hid ((allF ds ps o).length = (everyL ds ps).length) := hf1.2.2.2.1
        have HLF : Hid ((allF ds ps o).length = (allF ds ps p).length) := hf1.2.2.2.1.trans hf2.2.2.2.1.symm
        clear hor1 hbr1 hor2 hbr2 hf1 hf2 y0 y1 y2 y3 y4 y5 y6 y7 y8 y9 x0 x1 x2 x3 x4 x5 x6 x7 x8 x9 u0 u1 u2 u3 u4 u5 u6 u7 u8 u9
        have CA1 : Hid (∀ W, Below W3.heap.size W3 W → Calls Tryz.prog 14 #[.agg #[.slice a0 ds.length c0, .slice a1 ps.length c1]] W fun e w' => ∃ av cv, e = .returned (.slice av ds.length cv) ∧ IsAt w' (.slice av ds.length cv) (allV ds.length) ∧ Below W3.heap.size W3 w') := fun W h =>
          have hb := HB0.out.trans ((P3.out.trans (h.mono P3.out.size)).mono HB0.out.size)
          (all19_c _ _ ds ps W (HD.out.below hb) (HP.out.below hb) (by have := (right19_ok HR.out).2.2.1; omega)).mono fun e w' ⟨av, cv, h1, h2, h3⟩ => ⟨av, cv, h1, h2, h.trans (h3.mono h.size)⟩
        have CS1 : Hid (∀ W av cv, Below W3.heap.size W3 W → IsAt W (.slice av ds.length cv) (allV ds.length) → Calls Tryz.prog 13 #[.slice a0 ds.length c0, .slice a1 ps.length c1, .slice av ds.length cv, .agg #[.int .i64 o.sel, .int .i64 o.ord, .int .i64 o.br, .slice a2 o.ws.length c2], .int .i64 1000, .int .i64 10000] W fun e w' => ∃ ar cr, e = .returned (.tuple #[.slice ar (allF ds ps o).length cr, .int .i64 0]) ∧ LsAt w' (.slice ar (allF ds ps o).length cr) (allF ds ps o) ∧ Below W3.heap.size W3 w') := fun W av cv h hi => by
          have hb := HB0.out.trans ((P3.out.trans (h.mono P3.out.size)).mono HB0.out.size)
          have hs := solveAll_c (.slice a0 ds.length c0) (.slice a1 ps.length c1) (.slice av ds.length cv) (.slice a2 o.ws.length c2) o ds ps 1000 W (HD.out.below hb) (HP.out.below hb) hi (HO.out.below hb) HR.out HK1.out (by decide) (by decide)
          rw [allF_take HR.out HK1.out] at hs
          exact hs.mono fun e w' ⟨ar, cr, h1, h2, h3⟩ => ⟨ar, cr, h1, h2, h.trans (h3.mono h.size)⟩
        have HSW1 : Hid (∀ W', Below W3.heap.size W3 W' → (fun W' => W'.cell? ⟨w.heap.size, 0, none⟩ = some (.slice a0 ds.length c0) ∧ W'.cell? ⟨w.heap.size, 1, none⟩ = some (.slice a1 ps.length c1) ∧ W'.cell? ⟨w.heap.size + 1, 0, none⟩ = some (.int .i64 o.sel) ∧ W'.cell? ⟨w.heap.size + 1, 1, none⟩ = some (.int .i64 o.ord) ∧ W'.cell? ⟨w.heap.size + 1, 2, none⟩ = some (.int .i64 o.br) ∧ W'.cell? ⟨w.heap.size + 1, 3, none⟩ = some (.slice a2 o.ws.length c2)) W') := fun W' h =>
          have hc := HC.out W' (P3.out.trans (h.mono P3.out.size))
          ⟨hc.1, hc.2.1, hc.2.2.1, hc.2.2.2.1, hc.2.2.2.2.1, hc.2.2.2.2.2.1⟩
        obtain ⟨s0, s1, s2, s3, s4, s5⟩ := HSW1.out W3 (Below.refl _ _)
        clear CK1 CK2 CR CBAD
        go_wp2
        go_region_held3 (fun W' => W'.cell? ⟨w.heap.size, 0, none⟩ = some (.slice a0 ds.length c0) ∧ W'.cell? ⟨w.heap.size, 1, none⟩ = some (.slice a1 ps.length c1) ∧ W'.cell? ⟨w.heap.size + 1, 0, none⟩ = some (.int .i64 o.sel) ∧ W'.cell? ⟨w.heap.size + 1, 1, none⟩ = some (.int .i64 o.ord) ∧ W'.cell? ⟨w.heap.size + 1, 2, none⟩ = some (.int .i64 o.br) ∧ W'.cell? ⟨w.heap.size + 1, 3, none⟩ = some (.slice a2 o.ws.length c2)) ((first | exact HSW1.out _ QW5.out | exact HSW1.out _ QW4.out | (refine HSW1.out _ ?_; go_grown)))
          (first
            | (go_at_call 14; refine (CA1.out _ ?_).mono ?_; (· go_grown); rintro e W4 ⟨av1, cv1, rfl, i1, bw⟩; have QW4 := Lib.hid bw; have I1 := Lib.hid i1; clear bw i1)
            | (go_at_call 13; (with_reducible refine (CS1.out _ _ _ QW4.out I1.out).mono ?_); rintro e W5 ⟨ar1, cr1, rfl, l1, bw⟩; have QW5 := Lib.hid bw; have L1 := Lib.hid l1; clear bw l1))
        clear s0 s1 s2 s3 s4 s5
        have P5 := Lib.hid (P3.out.trans (QW5.out.mono P3.out.size))
        have CA2 : Hid (∀ W, Below W5.heap.size W5 W → Calls Tryz.prog 14 #[.agg #[.slice a0 ds.length c0, .slice a1 ps.length c1]] W fun e w' => ∃ av cv, e = .returned (.slice av ds.length cv) ∧ IsAt w' (.slice av ds.length cv) (allV ds.length) ∧ Below W5.heap.size W5 w') := fun W h =>
          have hb := HB0.out.trans ((P5.out.trans (h.mono P5.out.size)).mono HB0.out.size)
          (all19_c _ _ ds ps W (HD.out.below hb) (HP.out.below hb) (by have := (right19_ok HR.out).2.2.1; omega)).mono fun e w' ⟨av, cv, h1, h2, h3⟩ => ⟨av, cv, h1, h2, h.trans (h3.mono h.size)⟩
        have CS2 : Hid (∀ W av cv, Below W5.heap.size W5 W → IsAt W (.slice av ds.length cv) (allV ds.length) → Calls Tryz.prog 13 #[.slice a0 ds.length c0, .slice a1 ps.length c1, .slice av ds.length cv, .agg #[.int .i64 p.sel, .int .i64 p.ord, .int .i64 p.br, .slice a3 p.ws.length c3], .int .i64 1000, .int .i64 10000] W fun e w' => ∃ ar cr, e = .returned (.tuple #[.slice ar (allF ds ps p).length cr, .int .i64 0]) ∧ LsAt w' (.slice ar (allF ds ps p).length cr) (allF ds ps p) ∧ Below W5.heap.size W5 w') := fun W av cv h hi => by
          have hb := HB0.out.trans ((P5.out.trans (h.mono P5.out.size)).mono HB0.out.size)
          have hs := solveAll_c (.slice a0 ds.length c0) (.slice a1 ps.length c1) (.slice av ds.length cv) (.slice a3 p.ws.length c3) p ds ps 1000 W (HD.out.below hb) (HP.out.below hb) hi (HQ.out.below hb) HR.out HK2.out (by decide) (by decide)
          rw [allF_take HR.out HK2.out] at hs
          exact hs.mono fun e w' ⟨ar, cr, h1, h2, h3⟩ => ⟨ar, cr, h1, h2, h.trans (h3.mono h.size)⟩
        have HSW2 : Hid (∀ W', Below W5.heap.size W5 W' → (fun W' => W'.cell? ⟨w.heap.size, 0, none⟩ = some (.slice a0 ds.length c0) ∧ W'.cell? ⟨w.heap.size, 1, none⟩ = some (.slice a1 ps.length c1) ∧ W'.cell? ⟨w.heap.size + 1 + 1, 0, none⟩ = some (.int .i64 p.sel) ∧ W'.cell? ⟨w.heap.size + 1 + 1, 1, none⟩ = some (.int .i64 p.ord) ∧ W'.cell? ⟨w.heap.size + 1 + 1, 2, none⟩ = some (.int .i64 p.br) ∧ W'.cell? ⟨w.heap.size + 1 + 1, 3, none⟩ = some (.slice a3 p.ws.length c3)) W') := fun W' h =>
          have hc := HC.out W' (P5.out.trans (h.mono P5.out.size))
          ⟨hc.1, hc.2.1, hc.2.2.2.2.2.2.1, hc.2.2.2.2.2.2.2.1, hc.2.2.2.2.2.2.2.2.1, hc.2.2.2.2.2.2.2.2.2⟩
        obtain ⟨s0, s1, s2, s3, s4, s5⟩ := HSW2.out W5 (Below.refl _ _)
        go_wp2
        go_region_held3 (fun W' => W'.cell? ⟨w.heap.size, 0, none⟩ = some (.slice a0 ds.length c0) ∧ W'.cell? ⟨w.heap.size, 1, none⟩ = some (.slice a1 ps.length c1) ∧ W'.cell? ⟨w.heap.size + 1 + 1, 0, none⟩ = some (.int .i64 p.sel) ∧ W'.cell? ⟨w.heap.size + 1 + 1, 1, none⟩ = some (.int .i64 p.ord) ∧ W'.cell? ⟨w.heap.size + 1 + 1, 2, none⟩ = some (.int .i64 p.br) ∧ W'.cell? ⟨w.heap.size + 1 + 1, 3, none⟩ = some (.slice a3 p.ws.length c3)) ((first | exact HSW2.out _ QW7.out | exact HSW2.out _ QW6.out | (refine HSW2.out _ ?_; go_grown)))
          (first
            | (go_at_call 14; refine (CA2.out _ ?_).mono ?_; (· go_grown); rintro e W6 ⟨av2, cv2, rfl, i2, bw⟩; have QW6 := Lib.hid bw; have I2 := Lib.hid i2; clear bw i2)
            | (go_at_call 13; (with_reducible refine (CS2.out _ _ _ QW6.out I2.out).mono ?_); rintro e W7 ⟨ar2, cr2, rfl, l2, bw⟩; have QW7 := Lib.hid bw; have L2 := Lib.hid l2; clear bw l2))
        clear s0 s1 s2 s3 s4 s5
        have P7 := Lib.hid (P5.out.trans (QW7.out.mono P5.out.size))
        have BI7 := Lib.hid (HB0.out.trans (P7.out.mono HB0.out.size))
        obtain ⟨y0, y1, _⟩ := HC.out W7 P7.out
        obtain ⟨_, _, h4, hpr, hsm⟩ := right19_ok HR.out
        have CE := Lib.hid (every_c _ _ ds ps W7 (HD.out.below BI7.out) (HP.out.below BI7.out) HR.out hpr h4 hsm)
        have e1 : (((allF ds ps o).length : Int) == ((allF ds ps p).length : Int)) = true := by rw [HLF.out]; simp
        have e2 : (((allF ds ps o).length : Int) == ((everyL ds ps).length : Int)) = true := by rw [HLE.out]; simp
        clear h4 hpr hsm
        go_wp2_with (go_at_call 15; (with_reducible refine CE.out.mono ?_); rintro e W8 ⟨ae, ce, rfl, _, bb⟩; have B8 := Lib.hid (BI7.out.trans (bb.mono BI7.out.size)); clear bb)
        go_ret
        exact ⟨rfl, B8.out⟩
end Go.Proofs.YtaekdgikgbdnnaaGreat
