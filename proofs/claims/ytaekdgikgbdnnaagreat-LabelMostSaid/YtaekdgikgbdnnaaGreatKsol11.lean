/-
  LabelMost, walked.
-/
import Derived.Test.YtaekdgikgbdnnaaGreatKsol8
import Derived.Test.YtaekdgikgbdnnaaGreatKsol10
namespace Go.Proofs.YtaekdgikgbdnnaaGreat
open Go.RowKit

theorem findI_allV {n c : Nat} (h : c < n) : findI ((c : Int) == ·) (allV n) = c := by
  have hg : ∀ j (hj : j < (allV n).length), (allV n)[j] = (j : Int) := fun j hj => by simp [allV]
  refine findIdx_hit _ _ c (by rw [allV_len]; exact h) ?_ (by rw [hg]; simp)
  rw [List.any_eq_false]
  intro x hx
  obtain ⟨j, hj, rfl⟩ := List.mem_iff_getElem.1 hx
  rw [List.length_take] at hj
  rw [List.getElem_take, hg]
  simp
  omega
/-- what the law wants of Minimize -/
def MostR (ds : Ds) (ps : List PL) (c : Nat) (w : World) (e : Ending) (w' : World) : Prop :=
  ∃ (vb : Value) (e0 : Int), e = .returned (.tuple #[vb, .int .i64 e0]) ∧ Below w.heap.size w w' ∧ ((e0 = 34 ∧ vb = .slice none 0 0) ∨ (e0 = 0 ∧ vb = .slice none 0 0 ∧ everyL ds ps = []) ∨
    (e0 = 0 ∧ ∃ x, IsAt w' vb x ∧ x ∈ everyL ds ps ∧ ∀ y ∈ everyL ds ps, x.getD c 0 ≤ y.getD c 0))
theorem minimizeAll_c (vds vps va vw : Value) (o : SOpt) (ds : Ds) (ps : List PL) (c : Nat) (w : World) (hd : DsAt w vds ds) (hp : PsAt w vps ps) (hv : IsAt w va (allV ds.length)) (hw : IsAt w vw o.ws)
    (hr : right19 ds ps = true) (hlc : labChk o.sel o.ord o.br o.ws.length = 0) (hc : c < ds.length) :
    Calls Tryz.prog 21 #[vds, vps, va, .int .i64 c, .agg #[.int .i64 o.sel, .int .i64 o.ord, .int .i64 o.br, vw], .int .i64 10000] w (MostR ds ps c w) := by
  obtain ⟨hin, hfc, h4, hpr, _⟩ := right19_ok hr
  obtain ⟨_, hor, hbr⟩ := labChk_sound hlc
  have hg : ∀ p ∈ ps, p.Lin ds.length := fun p hp => fine_lin (hin.fine p hp)
  refine (minimize_ok vds vps va vw o ds ps (allV ds.length) c c 10000 w hd hp hv hw hin hlc hfc (by rw [allV_len]; omega) (allV_in _) (by decide) (by decide) (findI_allV hc) (by rw [allV_len]; exact hc) hc).mono fun e w' ⟨hb, hh⟩ => ?_
  rcases hh with ⟨_, rfl⟩ | ⟨h2, vb, rfl, h3⟩
  · exact ⟨_, _, rfl, hb, .inl ⟨rfl, rfl⟩⟩
  · obtain ⟨R, hR⟩ : ∃ R, R = minP ps (allV ds.length) o c c ds (10000 + 1) 10000 ds none := ⟨_, rfl⟩
    rw [← hR] at h2 h3
    have hl := minP_least hg hor hbr hc (10000 + 1) 10000 ds none (by decide) (.inl ⟨rfl, rfl⟩) R.1 (by rw [← hR, ← h2])
    rcases h3 with ⟨h3, rfl⟩ | ⟨x, h3, hx⟩
    · rcases hl with ⟨_, hno⟩ | ⟨x, hx, _⟩
      · refine ⟨_, _, rfl, hb, .inr (.inl ⟨rfl, rfl, ?_⟩)⟩
        cases he : everyL ds ps with
        | nil => rfl
        | cons y L => exact absurd ((every_mem ds ps y).1 (by rw [he]; exact List.mem_cons_self)) (hno y)
      · rw [h3] at hx; cases hx
    · rcases hl with ⟨hno, _⟩ | ⟨x', hx', hs, hle⟩
      · rw [h3] at hno; cases hno
      · rw [h3] at hx'
        cases hx'
        exact ⟨_, _, rfl, hb, .inr (.inr ⟨rfl, x, hx, (every_mem ds ps x).2 hs, fun y hy => hle y ((every_mem ds ps y).1 hy)⟩)⟩

set_option maxRecDepth 1000000 in
set_option maxHeartbeats 6400000 in
theorem labelMost_any (vds vps v1 : Value) (o : SOpt) (ds : Ds) (ps : List PL) (mo : Int) (w : World) (hd : DsAt w vds ds) (hp : PsAt w vps ps) (hw1 : IsAt w v1 o.ws) (hmo : 0 ≤ mo ∧ mo ≤ 255) :
    Calls Tryz.prog 9 #[.agg #[vds, vps], .int .u8 mo, .agg #[.int .i64 o.sel, .int .i64 o.ord, .int .i64 o.br, v1]] w fun e w' => e = .returned (.bool true) ∧ Below w.heap.size w w' := by
  obtain ⟨a0, c0, rfl, _⟩ := hd.shape
  obtain ⟨a1, c1, rfl, _⟩ := hp.shape
  obtain ⟨a2, c2, rfl, _⟩ := hw1.shape'
  obtain ⟨W0, hW0⟩ : ∃ W0, W0 = (w.alloc (.cells #[.slice a0 ds.length c0, .slice a1 ps.length c1] 25)).alloc (.cells #[.int .i64 o.sel, .int .i64 o.ord, .int .i64 o.br, .slice a2 o.ws.length c2] 28) := ⟨_, rfl⟩
  have hb0 : Below w.heap.size w W0 := by rw [hW0]; exact ((Below.refl _ w).alloc (Nat.le_refl _) _).alloc (by simp) _
  have hs0 : W0.heap.size = w.heap.size + 2 := by rw [hW0]; simp
  have hL1 : BoxL W0 w.heap.size [.slice a0 ds.length c0, .slice a1 ps.length c1] := by
    rw [hW0]
    exact (BoxL.mk' w #[.slice a0 ds.length c0, .slice a1 ps.length c1] _).below ((Below.refl _ _).alloc (Nat.le_refl _) _) (by simp)
  have hL2 : BoxL W0 (w.heap.size + 1) [.int .i64 o.sel, .int .i64 o.ord, .int .i64 o.br, .slice a2 o.ws.length c2] := by
    have h := BoxL.mk' (w.alloc (.cells #[.slice a0 ds.length c0, .slice a1 ps.length c1] 25)) #[.int .i64 o.sel, .int .i64 o.ord, .int .i64 o.br, .slice a2 o.ws.length c2] 28
    rw [show (w.alloc (.cells #[.slice a0 ds.length c0, .slice a1 ps.length c1] 25)).heap.size = w.heap.size + 1 by simp] at h
    rw [hW0]; exact h
  have HB0 := Lib.hid hb0
  have HL1 := Lib.hid hL1
  have HL2 := Lib.hid hL2
  have HW := Lib.hid hW0.symm
  have HD := Lib.hid hd
  have HP := Lib.hid hp
  have HO := Lib.hid hw1
  clear hb0 hL1 hL2 hW0 hd hp hw1
  have HC : Hid (∀ W, Below W0.heap.size W0 W → W.cell? ⟨w.heap.size, 0, none⟩ = some (.slice a0 ds.length c0) ∧ W.cell? ⟨w.heap.size, 1, none⟩ = some (.slice a1 ps.length c1) ∧
      W.cell? ⟨w.heap.size + 1, 0, none⟩ = some (.int .i64 o.sel) ∧ W.cell? ⟨w.heap.size + 1, 1, none⟩ = some (.int .i64 o.ord) ∧ W.cell? ⟨w.heap.size + 1, 2, none⟩ = some (.int .i64 o.br) ∧ W.cell? ⟨w.heap.size + 1, 3, none⟩ = some (.slice a2 o.ws.length c2)) := fun W h =>
    have e1 := HL1.out.below h (by omega)
    have e2 := HL2.out.below h (by omega)
    ⟨(e1.get 0 rfl).1, (e1.get 1 rfl).1, (e2.get 0 rfl).1, (e2.get 1 rfl).1, (e2.get 2 rfl).1, (e2.get 3 rfl).1⟩
  obtain ⟨z0, z1, z2, z3, z4, z5⟩ := HC.out W0 (Below.refl _ _)
  have CR := Lib.hid (right19_c _ _ ds ps W0 (HD.out.below HB0.out) (HP.out.below HB0.out))
  have CBAD : Hid (∀ W, Calls Tryz.prog 12 #[.agg #[.int .i64 0, .int .i64 (-1), .int .i64 0, .slice none 0 0]] W fun e w' => e = .returned (.int .i64 190) ∧ Below W.heap.size W w') := fun W => optBad_c 0 (-1) 0 W rfl
  cases hr : right19 ds ps with
  | false =>
    rw [hr] at CR
    clear hr
    go_enter Tryz.func9, Tryz.ntmps9
    go_upto_region 1 with fail
    rw [HW.out]
    go_wp2_with (first
      | (go_at_call 10; (with_reducible refine CR.out.mono ?_); rintro e W1 ⟨rfl, bb⟩; have P1 := Lib.hid bb; obtain ⟨y0, y1, y2, y3, y4, y5⟩ := HC.out _ bb; clear bb)
      | (go_at_call 12; (with_reducible refine (CBAD.out _).mono ?_); rintro e WB ⟨rfl, bb⟩; have PB := Lib.hid (HB0.out.trans ((P1.out.trans (bb.mono P1.out.size)).mono HB0.out.size)); clear bb))
    go_ret
    exact ⟨rfl, PB.out⟩
  | true =>
    rw [hr] at CR
    have HR := Lib.hid hr
    clear hr
    have CK1 := Lib.hid (refLabCheck_c o.sel o.ord o.br a2 o.ws.length c2)
    by_cases h0 : ds.length = 0
    · have j0 : ((ds.length : Int) == 0) = true := by rw [h0]; rfl
      clear h0
      go_enter Tryz.func9, Tryz.ntmps9
      go_upto_region 1 with fail
      rw [HW.out]
      go_wp2_with (first
        | (go_at_call 10; (with_reducible refine CR.out.mono ?_); rintro e W1 ⟨rfl, bb⟩; have P1 := Lib.hid bb; obtain ⟨y0, y1, y2, y3, y4, y5⟩ := HC.out _ bb; clear bb)
        | (go_at_call 12; (with_reducible refine (CBAD.out _).mono ?_); rintro e WB ⟨rfl, bb⟩; have PB := Lib.hid (HB0.out.trans ((P1.out.trans (bb.mono P1.out.size)).mono HB0.out.size)); clear bb))
      go_ret
      exact ⟨rfl, PB.out⟩
    have j0 : ((ds.length : Int) == 0) = false := beq_eq_false_iff_ne.2 (by omega)
    have hnp : (0 : Int) < ds.length := by omega
    by_cases h1 : 100 < o.ws.length
    · go_enter Tryz.func9, Tryz.ntmps9
      go_upto_region 1 with fail
      rw [HW.out]
      go_wp2_with (first
        | (go_at_call 10; (with_reducible refine CR.out.mono ?_); rintro e W1 ⟨rfl, bb⟩; have P1 := Lib.hid bb; obtain ⟨y0, y1, y2, y3, y4, y5⟩ := HC.out _ bb; clear bb)
        | (go_at_call 12; (with_reducible refine (CBAD.out _).mono ?_); rintro e WB ⟨rfl, bb⟩; have PB := Lib.hid (HB0.out.trans ((P1.out.trans (bb.mono P1.out.size)).mono HB0.out.size)); clear bb))
      go_ret
      exact ⟨rfl, PB.out⟩
    cases hk1 : decide (labChk o.sel o.ord o.br o.ws.length = 0) with
    | false =>
      have hk1' : (labChk o.sel o.ord o.br o.ws.length != 0) = true := by simpa using hk1
      clear hk1
      generalize labChk o.sel o.ord o.br o.ws.length = kk at *
      go_enter Tryz.func9, Tryz.ntmps9
      go_upto_region 1 with fail
      rw [HW.out]
      go_wp2_with (first
        | (go_at_call 10; (with_reducible refine CR.out.mono ?_); rintro e W1 ⟨rfl, bb⟩; have P1 := Lib.hid bb; obtain ⟨y0, y1, y2, y3, y4, y5⟩ := HC.out _ bb; clear bb)
        | (go_at_call 11; (with_reducible refine (CK1.out _).mono ?_); rintro e W2 ⟨rfl, bb⟩; have P2 := Lib.hid (P1.out.trans (bb.mono P1.out.size)); obtain ⟨x0, x1, x2, x3, x4, x5⟩ := HC.out _ P2.out; clear bb)
        | (go_at_call 12; (with_reducible refine (CBAD.out _).mono ?_); rintro e WB ⟨rfl, bb⟩; have PB := Lib.hid (HB0.out.trans ((P2.out.trans (bb.mono P2.out.size)).mono HB0.out.size)); clear bb))
      go_ret
      exact ⟨rfl, PB.out⟩
    | true =>
      have hk1 := of_decide_eq_true hk1
      have HK1 := Lib.hid hk1
      rw [hk1] at CK1
      clear hk1
      obtain ⟨_, hor1, hbr1⟩ := labChk_sound HK1.out
      have HF := Lib.hid (allF_ok HR.out hor1 hbr1)
      have hl1 : (allF ds ps o).length ≤ 200 := HF.out.2.2.2.2
      clear hor1 hbr1
      go_enter Tryz.func9, Tryz.ntmps9
      go_upto_region 1 with fail
      rw [HW.out]
      go_upto_region 3 with (first
        | (go_at_call 10; (with_reducible refine CR.out.mono ?_); rintro e W1 ⟨rfl, bb⟩; have P1 := Lib.hid bb; obtain ⟨y0, y1, y2, y3, y4, y5⟩ := HC.out _ bb; clear bb)
        | (go_at_call 11; (with_reducible refine (CK1.out _).mono ?_); rintro e W2 ⟨rfl, bb⟩; have P2 := Lib.hid (P1.out.trans (bb.mono P1.out.size)); obtain ⟨x0, x1, x2, x3, x4, x5⟩ := HC.out _ P2.out; clear bb))
      obtain ⟨c, hc⟩ : ∃ c : Nat, Int.tmod mo ds.length = (c : Int) := ⟨(Int.tmod mo ds.length).toNat, by have := Int.tmod_nonneg (ds.length : Int) hmo.1; omega⟩
      have hcl : c < ds.length := by have := Int.tmod_lt_of_pos mo hnp; omega
      go_upto_region 4 with fail
      have CA1 : Hid (∀ W, Below W2.heap.size W2 W → Calls Tryz.prog 14 #[.agg #[.slice a0 ds.length c0, .slice a1 ps.length c1]] W fun e w' => ∃ av cv, e = .returned (.slice av ds.length cv) ∧ IsAt w' (.slice av ds.length cv) (allV ds.length) ∧ Below W2.heap.size W2 w') := fun W h =>
        have hb := HB0.out.trans ((P2.out.trans (h.mono P2.out.size)).mono HB0.out.size)
        (all19_c _ _ ds ps W (HD.out.below hb) (HP.out.below hb) (by have := (right19_ok HR.out).2.2.1; omega)).mono fun e w' ⟨av, cv, h1, h2, h3⟩ => ⟨av, cv, h1, h2, h.trans (h3.mono h.size)⟩
      have CS1 : Hid (∀ W av cv, Below W2.heap.size W2 W → IsAt W (.slice av ds.length cv) (allV ds.length) → Calls Tryz.prog 21 #[.slice a0 ds.length c0, .slice a1 ps.length c1, .slice av ds.length cv, .int .i64 c, .agg #[.int .i64 o.sel, .int .i64 o.ord, .int .i64 o.br, .slice a2 o.ws.length c2], .int .i64 10000] W (MostR ds ps c W)) := fun W av cv h hi =>
        have hb := HB0.out.trans ((P2.out.trans (h.mono P2.out.size)).mono HB0.out.size)
        minimizeAll_c (.slice a0 ds.length c0) (.slice a1 ps.length c1) (.slice av ds.length cv) (.slice a2 o.ws.length c2) o ds ps c W (HD.out.below hb) (HP.out.below hb) hi (HO.out.below hb) HR.out HK1.out hcl
      have HSW1 : Hid (∀ W', Below W2.heap.size W2 W' → (fun W' => W'.cell? ⟨w.heap.size, 0, none⟩ = some (.slice a0 ds.length c0) ∧ W'.cell? ⟨w.heap.size, 1, none⟩ = some (.slice a1 ps.length c1) ∧ W'.cell? ⟨w.heap.size + 1, 0, none⟩ = some (.int .i64 o.sel) ∧ W'.cell? ⟨w.heap.size + 1, 1, none⟩ = some (.int .i64 o.ord) ∧ W'.cell? ⟨w.heap.size + 1, 2, none⟩ = some (.int .i64 o.br) ∧ W'.cell? ⟨w.heap.size + 1, 3, none⟩ = some (.slice a2 o.ws.length c2)) W') := fun W' h => HC.out W' (P2.out.trans (h.mono P2.out.size))
      obtain ⟨s0, s1, s2, s3, s4, s5⟩ := HSW1.out W2 (Below.refl _ _)
      have HCE := Lib.hid hc
      clear CK1 CR CBAD y0 y1 y2 y3 y4 y5 x0 x1 x2 x3 x4 x5 hc
      go_region_held3 (fun W' => W'.cell? ⟨w.heap.size, 0, none⟩ = some (.slice a0 ds.length c0) ∧ W'.cell? ⟨w.heap.size, 1, none⟩ = some (.slice a1 ps.length c1) ∧ W'.cell? ⟨w.heap.size + 1, 0, none⟩ = some (.int .i64 o.sel) ∧ W'.cell? ⟨w.heap.size + 1, 1, none⟩ = some (.int .i64 o.ord) ∧ W'.cell? ⟨w.heap.size + 1, 2, none⟩ = some (.int .i64 o.br) ∧ W'.cell? ⟨w.heap.size + 1, 3, none⟩ = some (.slice a2 o.ws.length c2)) ((first | exact HSW1.out _ QW4.out | exact HSW1.out _ QW3.out | (refine HSW1.out _ ?_; go_grown)))
        (first
          | (go_at_call 14; refine (CA1.out _ ?_).mono ?_; (· go_grown); rintro e W3 ⟨av1, cv1, rfl, i1, bw⟩; have QW3 := Lib.hid bw; have I1 := Lib.hid i1; clear bw i1)
          | (go_at_call 21; (with_reducible refine (CS1.out _ _ _ QW3.out I1.out).mono ?_); rintro e W4 ⟨vb, e0, rfl, bw, hx⟩; have QW4 := Lib.hid (QW3.out.trans (bw.mono QW3.out.size)); have HX := Lib.hid hx; clear bw hx))
      clear s0 s1 s2 s3 s4 s5
      have P4 := Lib.hid (P2.out.trans (QW4.out.mono P2.out.size))
      have BI4 := Lib.hid (HB0.out.trans (P4.out.mono HB0.out.size))
      obtain ⟨z0', z1', _⟩ := HC.out W4 P4.out
      obtain ⟨hin, _, h4, hpr, hsm⟩ := right19_ok HR.out
      have CE := Lib.hid (every_c _ _ ds ps W4 (HD.out.below BI4.out) (HP.out.below BI4.out) HR.out hpr h4 hsm)
      have HIN := Lib.hid hin
      have HMEM := Lib.hid (every_mem ds ps)
      have HLEN := Lib.hid (every_len (ps := ps) hpr)
      clear hpr hsm hin
      generalize everyL ds ps = E at *
      rcases HX.out with ⟨rfl, rfl⟩ | ⟨rfl, rfl, hE⟩ | ⟨rfl, x, hx, hxm, hxl⟩
      · clear HX
        go_wp2_with (go_at_call 15; (with_reducible refine CE.out.mono ?_); rintro e W8 ⟨ae, ce, rfl, _, bb⟩; have B8 := Lib.hid (BI4.out.trans (bb.mono BI4.out.size)); clear bb)
        go_ret
        exact ⟨rfl, B8.out⟩
      · clear HX
        subst hE
        go_wp2_with (go_at_call 15; (with_reducible refine CE.out.mono ?_); rintro e W8 ⟨ae, ce, rfl, _, bb⟩; have B8 := Lib.hid (BI4.out.trans (bb.mono BI4.out.size)); clear bb)
        go_ret
        exact ⟨rfl, B8.out⟩
      · clear HX
        obtain ⟨ax, cx, rfl, _⟩ := IsAt.shape hx
        have hsol := (HMEM.out x).1 hxm
        have hxn := hsol.1.1
        rw [List.length_map] at hxn
        have hep : 0 < E.length := List.length_pos_of_mem hxm
        have e1 : ((ds.length : Int) == 0) = false := beq_eq_false_iff_ne.2 (by omega)
        have e2 : ((E.length : Int) == 0) = false := beq_eq_false_iff_ne.2 (by omega)
        have e3 : ((0 : Int) < E.length) := by omega
        have hah : allHold ps x = true := by
          unfold allHold
          rw [List.all_eq_true]
          exact hsol.2
        have hbx := has_bnd hsol.1
        rw [hxn] at hx ⊢
        have IX := Lib.hid hx
        have HXM := Lib.hid hxm
        have HXL := Lib.hid hxl
        have HN := Lib.hid hxn
        clear hx hxm hxl hxn hsol
        go_upto_region 10 with (go_at_call 15; (with_reducible refine CE.out.mono ?_); rintro e W8 ⟨ae, ce, rfl, le, bb⟩; have B48 := Lib.hid bb; have B8 := Lib.hid (BI4.out.trans (bb.mono BI4.out.size)); have LE := Lib.hid le; clear bb le)
        have IX8 := Lib.hid (IX.out.below B48.out)
        obtain ⟨y0, y1, _⟩ := HC.out W8 (P4.out.trans (B48.out.mono P4.out.size))
        obtain ⟨be, oe, ay, cy, rfl, _, _, hcy, iy⟩ := LE.out.get 0 hep
        have hyl : E[0].length = ds.length := by
          have h := ((HMEM.out E[0]).1 (List.getElem_mem hep)).1.1
          rwa [List.length_map] at h
        obtain ⟨b2, o2, rfl, _, _, hcz⟩ := IsAt.getR iy c (by omega)
        have hz0 : E[0].getD c 0 = E[0][c] := by rw [List.getD_eq_getElem?_getD, List.getElem?_eq_getElem (by omega)]; rfl
        rw [Nat.add_zero] at hcy
        obtain ⟨v0, hv0⟩ : ∃ v0, v0 = E[0][c] := ⟨_, rfl⟩
        rw [← hv0] at hcz hz0
        have HLV : Hid (∃ y ∈ E, v0 = y.getD c 0) := ⟨E[0], List.getElem_mem hep, hz0.symm⟩
        rw [hyl] at hcy
        have jc : (c : Int) < ds.length := by omega
        have hEl : E.length ≤ 200 := HLEN.out
        clear hz0 hv0 iy hyl
        go_wp2
        go_loopw [11, 12] (fun s t wr => ∃ (k : Nat) (lv : Int), k ≤ E.length ∧ s = .int .i64 lv ∧ t = .int .i64 k ∧ Hid (wr = W8) ∧ Hid (∃ y ∈ E, lv = y.getD c 0) ∧ Hid (∀ j (hj : j < E.length), j < k → lv ≤ E[j].getD c 0)) (fun s t _ => E.length - (intOf t).toNat)
        case atStart => exact ⟨0, v0, by omega, rfl, rfl, rfl, HLV, Lib.hid (fun j _ h => by omega)⟩
        case round =>
          clear hcy hcz
          obtain ⟨k, lv, hk, rfl, rfl, HWR, HA, HB⟩ := hrel
          have LE := Lib.hid (show LsAt wr _ E by rw [HWR.out]; exact LE.out)
          have IX8 := Lib.hid (show IsAt wr _ x by rw [HWR.out]; exact IX8.out)
          have B8 := Lib.hid (show Below w.heap.size w wr by rw [HWR.out]; exact B8.out)
          have w0 : wr.cell? ⟨w.heap.size, 0, none⟩ = some (.slice a0 ds.length c0) := by rw [HWR.out]; exact y0
          have w1 : wr.cell? ⟨w.heap.size, 1, none⟩ = some (.slice a1 ps.length c1) := by rw [HWR.out]; exact y1
          by_cases hlt : k < E.length
          · obtain ⟨b3, o3, ay, cy, hae, _, _, hcy, iy⟩ := LE.out.get k hlt
            obtain ⟨rfl, rfl⟩ : be = b3 ∧ oe = o3 := by
              injection hae with hae
              injection hae with h1 h2
              exact ⟨h1, h2⟩
            have hyl : E[k].length = ds.length := by
              have h := ((HMEM.out E[k]).1 (List.getElem_mem hlt)).1.1
              rwa [List.length_map] at h
            obtain ⟨b4, o4, rfl, _, _, hcz⟩ := IsAt.getR iy c (by omega)
            have hz0 : E[k].getD c 0 = E[k][c] := by rw [List.getD_eq_getElem?_getD, List.getElem?_eq_getElem (by omega)]; rfl
            rw [hyl] at hcy
            obtain ⟨v1, hv1⟩ : ∃ v1, v1 = E[k][c] := ⟨_, rfl⟩
            rw [← hv1] at hcz hz0
            have j1 : (k : Int) < E.length := by omega
            have HA2 : Hid (∃ y ∈ E, min lv v1 = y.getD c 0) := by
              rcases Int.le_total lv v1 with h | h
              · rw [Int.min_eq_left h]; exact HA.out
              · rw [Int.min_eq_right h]; exact ⟨E[k], List.getElem_mem hlt, hz0.symm⟩
            have HB2 : Hid (∀ j (hj : j < E.length), j < k + 1 → min lv v1 ≤ E[j].getD c 0) := fun j hj h => by
              rcases Nat.lt_or_eq_of_le (Nat.le_of_lt_succ h) with h | rfl
              · have := HB.out j hj h; omega
              · rw [hz0]; omega
            clear hv1 hz0 iy hyl hae
            go_wp2
            exact ⟨⟨k + 1, min lv v1, by omega, rfl, by go_num, HWR, HA2, HB2⟩, by simp [intOf]; omega⟩
          · obtain ⟨bx, ox, rfl, _, _, hcx⟩ := IsAt.getR IX8.out c (by have := HN.out; omega)
            have hxg : x.getD c 0 = x[c]'(by have := HN.out; omega) := by rw [List.getD_eq_getElem?_getD, List.getElem?_eq_getElem (by have := HN.out; omega)]; rfl
            obtain ⟨v1, hv1⟩ : ∃ v1, v1 = x[c]'(by have := HN.out; omega) := ⟨_, rfl⟩
            rw [← hv1] at hcx hxg
            have heq : v1 = lv := by
              obtain ⟨y, hy, rfl⟩ := HA.out
              have h1 := HXL.out y hy
              obtain ⟨j, hj, hxj⟩ := List.mem_iff_getElem.1 HXM.out
              have h2 := HB.out j hj (by omega)
              rw [hxj] at h2
              omega
            subst heq
            have CH := Lib.hid (refFixHolds_c _ _ ps ds x wr IX8.out (HP.out.below B8.out) ⟨HIN.out.fine, by have := HN.out; omega, hbx⟩ (by have := HIN.out.P; omega))
            rw [hah] at CH
            clear hv1 hxg hbx hah
            go_wp2_with (go_at_call 23; (with_reducible refine CH.out.mono ?_); rintro e W9 ⟨rfl, bb⟩; have B9 := Lib.hid (B8.out.trans (bb.mono B8.out.size)); clear bb)
            go_ret
            exact ⟨rfl, B9.out⟩
end Go.Proofs.YtaekdgikgbdnnaaGreat
