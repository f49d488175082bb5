/-
  LabelFirst, walked.
-/
import Derived.Test.YtaekdgikgbdnnaaGreatKsol8
namespace Go.Proofs.YtaekdgikgbdnnaaGreat
open Go.RowKit

theorem LsAt.cut {W : World} {ao : Option Addr} {n cap m : Nat} {L : List (List Int)} (h : LsAt W (.slice ao n cap) L) (hm : m ≤ L.length) : LsAt W (.slice ao m cap) (L.take m) := by
  obtain ⟨us, h1, h2, h3⟩ := h
  obtain ⟨g1, ao', cap', he, g2, g3, g5, g4⟩ := h2
  simp only [Value.slice.injEq] at he
  obtain ⟨rfl, rfl, rfl⟩ := he
  have hl : (L.take m).length = m := by rw [List.length_take]; omega
  refine ⟨us.take m, by rw [List.length_take, List.length_take, h1], ?_, fun j hj => ?_⟩
  · rw [hl]
    refine ⟨by rw [List.length_take, h1]; omega, ao, cap, rfl, by omega, g3, g5, fun hp => ?_⟩
    obtain ⟨b, off, rfl, hlt, hc⟩ := g4 (by omega)
    exact ⟨b, off, rfl, hlt, fun j hj => by rw [hc j (by omega), List.getElem?_take, if_pos (by omega)]⟩
  · have hj' : j < m := by omega
    obtain ⟨u, a, b⟩ := h3 j (by omega)
    exact ⟨u, by rw [List.getElem?_take, if_pos hj']; exact a, by rw [List.getElem_take]; exact b⟩
set_option maxRecDepth 1000000 in
set_option maxHeartbeats 6400000 in
theorem labelFirst_any (vds vps v1 : Value) (o : SOpt) (ds : Ds) (ps : List PL) (mo : Int) (w : World) (hd : DsAt w vds ds) (hp : PsAt w vps ps) (hw1 : IsAt w v1 o.ws) (hmo : 0 ≤ mo ∧ mo ≤ 255) :
    Calls Tryz.prog 7 #[.agg #[vds, vps], .agg #[.int .i64 o.sel, .int .i64 o.ord, .int .i64 o.br, v1], .int .u8 mo] w fun e w' => e = .returned (.bool true) ∧ Below w.heap.size w w' := by
  obtain ⟨a0, c0, rfl, _⟩ := hd.shape
  obtain ⟨a1, c1, rfl, _⟩ := hp.shape
  obtain ⟨a2, c2, rfl, _⟩ := hw1.shape'
  obtain ⟨W0, hW0⟩ : ∃ W0, W0 = (w.alloc (.cells #[.slice a0 ds.length c0, .slice a1 ps.length c1] 25)).alloc (.cells #[.int .i64 o.sel, .int .i64 o.ord, .int .i64 o.br, .slice a2 o.ws.length c2] 28) := ⟨_, rfl⟩
  have hb0 : Below w.heap.size w W0 := by rw [hW0]; exact ((Below.refl _ w).alloc (Nat.le_refl _) _).alloc (by simp) _
  have hs0 : W0.heap.size = w.heap.size + 2 := by rw [hW0]; simp
  have hL1 : BoxL W0 w.heap.size [.slice a0 ds.length c0, .slice a1 ps.length c1] := by
    rw [hW0]
    exact (BoxL.mk' w #[.slice a0 ds.length c0, .slice a1 ps.length c1] _).below ((Below.refl _ _).alloc (Nat.le_refl _) _) (by simp)
  have hL2 : BoxL W0 (w.heap.size + 1) [.int .i64 o.sel, .int .i64 o.ord, .int .i64 o.br, .slice a2 o.ws.length c2] := by
    have h := BoxL.mk' (w.alloc (.cells #[.slice a0 ds.length c0, .slice a1 ps.length c1] 25)) #[.int .i64 o.sel, .int .i64 o.ord, .int .i64 o.br, .slice a2 o.ws.length c2] 28
    rw [show (w.alloc (.cells #[.slice a0 ds.length c0, .slice a1 ps.length c1] 25)).heap.size = w.heap.size + 1 by simp] at h
    rw [hW0]; exact h
  have HB0 := Lib.hid hb0
  have HL1 := Lib.hid hL1
  have HL2 := Lib.hid hL2
  have HW := Lib.hid hW0.symm
  have HD := Lib.hid hd
  have HP := Lib.hid hp
  have HO := Lib.hid hw1
  clear hb0 hL1 hL2 hW0 hd hp hw1
  have HC : Hid (∀ W, Below W0.heap.size W0 W → W.cell? ⟨w.heap.size, 0, none⟩ = some (.slice a0 ds.length c0) ∧ W.cell? ⟨w.heap.size, 1, none⟩ = some (.slice a1 ps.length c1) ∧
      W.cell? ⟨w.heap.size + 1, 0, none⟩ = some (.int .i64 o.sel) ∧ W.cell? ⟨w.heap.size + 1, 1, none⟩ = some (.int .i64 o.ord) ∧ W.cell? ⟨w.heap.size + 1, 2, none⟩ = some (.int .i64 o.br) ∧ W.cell? ⟨w.heap.size + 1, 3, none⟩ = some (.slice a2 o.ws.length c2)) := fun W h =>
    have e1 := HL1.out.below h (by omega)
    have e2 := HL2.out.below h (by omega)
    ⟨(e1.get 0 rfl).1, (e1.get 1 rfl).1, (e2.get 0 rfl).1, (e2.get 1 rfl).1, (e2.get 2 rfl).1, (e2.get 3 rfl).1⟩
  obtain ⟨z0, z1, z2, z3, z4, z5⟩ := HC.out W0 (Below.refl _ _)
  have CR := Lib.hid (right19_c _ _ ds ps W0 (HD.out.below HB0.out) (HP.out.below HB0.out))
  have CBAD : Hid (∀ W, Calls Tryz.prog 12 #[.agg #[.int .i64 (-1), .int .i64 0, .int .i64 0, .slice none 0 0]] W fun e w' => e = .returned (.int .i64 190) ∧ Below W.heap.size W w') := fun W => optBad_c (-1) 0 0 W rfl
  cases hr : right19 ds ps with
  | false =>
    rw [hr] at CR
    clear hr
    go_enter Tryz.func7, Tryz.ntmps7
    go_upto_region 1 with fail
    rw [HW.out]
    go_wp2_with (first
      | (go_at_call 10; (with_reducible refine CR.out.mono ?_); rintro e W1 ⟨rfl, bb⟩; have P1 := Lib.hid bb; obtain ⟨y0, y1, y2, y3, y4, y5⟩ := HC.out _ bb; clear bb)
      | (go_at_call 12; (with_reducible refine (CBAD.out _).mono ?_); rintro e WB ⟨rfl, bb⟩; have PB := Lib.hid (HB0.out.trans ((P1.out.trans (bb.mono P1.out.size)).mono HB0.out.size)); clear bb))
    go_ret
    exact ⟨rfl, PB.out⟩
  | true =>
    rw [hr] at CR
    have HR := Lib.hid hr
    clear hr
    have CK1 := Lib.hid (refLabCheck_c o.sel o.ord o.br a2 o.ws.length c2)
    by_cases h1 : 100 < o.ws.length
    · go_enter Tryz.func7, Tryz.ntmps7
      go_upto_region 1 with fail
      rw [HW.out]
      go_wp2_with (first
        | (go_at_call 10; (with_reducible refine CR.out.mono ?_); rintro e W1 ⟨rfl, bb⟩; have P1 := Lib.hid bb; obtain ⟨y0, y1, y2, y3, y4, y5⟩ := HC.out _ bb; clear bb)
        | (go_at_call 12; (with_reducible refine (CBAD.out _).mono ?_); rintro e WB ⟨rfl, bb⟩; have PB := Lib.hid (HB0.out.trans ((P1.out.trans (bb.mono P1.out.size)).mono HB0.out.size)); clear bb))
      go_ret
      exact ⟨rfl, PB.out⟩
    cases hk1 : decide (labChk o.sel o.ord o.br o.ws.length = 0) with
    | false =>
      have hk1' : (labChk o.sel o.ord o.br o.ws.length != 0) = true := by simpa using hk1
      clear hk1
      generalize labChk o.sel o.ord o.br o.ws.length = kk at *
      go_enter Tryz.func7, Tryz.ntmps7
      go_upto_region 1 with fail
      rw [HW.out]
      go_wp2_with (first
        | (go_at_call 10; (with_reducible refine CR.out.mono ?_); rintro e W1 ⟨rfl, bb⟩; have P1 := Lib.hid bb; obtain ⟨y0, y1, y2, y3, y4, y5⟩ := HC.out _ bb; clear bb)
        | (go_at_call 11; (with_reducible refine (CK1.out _).mono ?_); rintro e W2 ⟨rfl, bb⟩; have P2 := Lib.hid (P1.out.trans (bb.mono P1.out.size)); obtain ⟨x0, x1, x2, x3, x4, x5⟩ := HC.out _ P2.out; clear bb)
        | (go_at_call 12; (with_reducible refine (CBAD.out _).mono ?_); rintro e WB ⟨rfl, bb⟩; have PB := Lib.hid (HB0.out.trans ((P2.out.trans (bb.mono P2.out.size)).mono HB0.out.size)); clear bb))
      go_ret
      exact ⟨rfl, PB.out⟩
    | true =>
      have hk1 := of_decide_eq_true hk1
      have HK1 := Lib.hid hk1
      rw [hk1] at CK1
      clear hk1
      obtain ⟨_, hor1, hbr1⟩ := labChk_sound HK1.out
      have HF := Lib.hid (allF_ok HR.out hor1 hbr1)
      have hl1 : (allF ds ps o).length ≤ 200 := HF.out.2.2.2.2
      clear hor1 hbr1
      go_enter Tryz.func7, Tryz.ntmps7
      go_upto_region 1 with fail
      rw [HW.out]
      go_upto_region 3 with (first
        | (go_at_call 10; (with_reducible refine CR.out.mono ?_); rintro e W1 ⟨rfl, bb⟩; have P1 := Lib.hid bb; obtain ⟨y0, y1, y2, y3, y4, y5⟩ := HC.out _ bb; clear bb)
        | (go_at_call 11; (with_reducible refine (CK1.out _).mono ?_); rintro e W2 ⟨rfl, bb⟩; have P2 := Lib.hid (P1.out.trans (bb.mono P1.out.size)); obtain ⟨x0, x1, x2, x3, x4, x5⟩ := HC.out _ P2.out; clear bb))
      obtain ⟨m, hm⟩ : ∃ m : Nat, 1 + mo % 20 = (m : Int) := ⟨(1 + mo % 20).toNat, by omega⟩
      have hm1 : 1 ≤ m ∧ m ≤ 20 := by omega
      have CA1 : Hid (∀ W, Below W2.heap.size W2 W → Calls Tryz.prog 14 #[.agg #[.slice a0 ds.length c0, .slice a1 ps.length c1]] W fun e w' => ∃ av cv, e = .returned (.slice av ds.length cv) ∧ IsAt w' (.slice av ds.length cv) (allV ds.length) ∧ Below W2.heap.size W2 w') := fun W h =>
        have hb := HB0.out.trans ((P2.out.trans (h.mono P2.out.size)).mono HB0.out.size)
        (all19_c _ _ ds ps W (HD.out.below hb) (HP.out.below hb) (by have := (right19_ok HR.out).2.2.1; omega)).mono fun e w' ⟨av, cv, h1, h2, h3⟩ => ⟨av, cv, h1, h2, h.trans (h3.mono h.size)⟩
      have CS1 : Hid (∀ W av cv, Below W2.heap.size W2 W → IsAt W (.slice av ds.length cv) (allV ds.length) → Calls Tryz.prog 13 #[.slice a0 ds.length c0, .slice a1 ps.length c1, .slice av ds.length cv, .agg #[.int .i64 o.sel, .int .i64 o.ord, .int .i64 o.br, .slice a2 o.ws.length c2], .int .i64 1000, .int .i64 10000] W fun e w' => ∃ ar cr, e = .returned (.tuple #[.slice ar (allF ds ps o).length cr, .int .i64 0]) ∧ LsAt w' (.slice ar (allF ds ps o).length cr) (allF ds ps o) ∧ Below W2.heap.size W2 w') := fun W av cv h hi => by
        have hb := HB0.out.trans ((P2.out.trans (h.mono P2.out.size)).mono HB0.out.size)
        have hs := solveAll_c (.slice a0 ds.length c0) (.slice a1 ps.length c1) (.slice av ds.length cv) (.slice a2 o.ws.length c2) o ds ps 1000 W (HD.out.below hb) (HP.out.below hb) hi (HO.out.below hb) HR.out HK1.out (by decide) (by decide)
        rw [allF_take HR.out HK1.out] at hs
        exact hs.mono fun e w' ⟨ar, cr, h1, h2, h3⟩ => ⟨ar, cr, h1, h2, h.trans (h3.mono h.size)⟩
      have HSW1 : Hid (∀ W', Below W2.heap.size W2 W' → (fun W' => W'.cell? ⟨w.heap.size, 0, none⟩ = some (.slice a0 ds.length c0) ∧ W'.cell? ⟨w.heap.size, 1, none⟩ = some (.slice a1 ps.length c1) ∧ W'.cell? ⟨w.heap.size + 1, 0, none⟩ = some (.int .i64 o.sel) ∧ W'.cell? ⟨w.heap.size + 1, 1, none⟩ = some (.int .i64 o.ord) ∧ W'.cell? ⟨w.heap.size + 1, 2, none⟩ = some (.int .i64 o.br) ∧ W'.cell? ⟨w.heap.size + 1, 3, none⟩ = some (.slice a2 o.ws.length c2)) W') := fun W' h => HC.out W' (P2.out.trans (h.mono P2.out.size))
      obtain ⟨s0, s1, s2, s3, s4, s5⟩ := HSW1.out W2 (Below.refl _ _)
      clear CK1 CR CBAD y0 y1 y2 y3 y4 y5 x0 x1 x2 x3 x4 x5
      go_upto_region 4 with fail
      have HM := Lib.hid hm
      clear hm
      go_region_held3 (fun W' => W'.cell? ⟨w.heap.size, 0, none⟩ = some (.slice a0 ds.length c0) ∧ W'.cell? ⟨w.heap.size, 1, none⟩ = some (.slice a1 ps.length c1) ∧ W'.cell? ⟨w.heap.size + 1, 0, none⟩ = some (.int .i64 o.sel) ∧ W'.cell? ⟨w.heap.size + 1, 1, none⟩ = some (.int .i64 o.ord) ∧ W'.cell? ⟨w.heap.size + 1, 2, none⟩ = some (.int .i64 o.br) ∧ W'.cell? ⟨w.heap.size + 1, 3, none⟩ = some (.slice a2 o.ws.length c2)) ((first | exact HSW1.out _ QW4.out | exact HSW1.out _ QW3.out | (refine HSW1.out _ ?_; go_grown)))
        (first
          | (go_at_call 14; refine (CA1.out _ ?_).mono ?_; (· go_grown); rintro e W3 ⟨av1, cv1, rfl, i1, bw⟩; have QW3 := Lib.hid bw; have I1 := Lib.hid i1; clear bw i1)
          | (go_at_call 13; (with_reducible refine (CS1.out _ _ _ QW3.out I1.out).mono ?_); rintro e W4 ⟨ar1, cr1, rfl, l1, bw⟩; have QW4 := Lib.hid bw; have L1 := Lib.hid l1; clear bw l1))
      clear s0 s1 s2 s3 s4 s5
      have P4 := Lib.hid (P2.out.trans (QW4.out.mono P2.out.size))
      have CA2 : Hid (∀ W, Below W4.heap.size W4 W → Calls Tryz.prog 14 #[.agg #[.slice a0 ds.length c0, .slice a1 ps.length c1]] W fun e w' => ∃ av cv, e = .returned (.slice av ds.length cv) ∧ IsAt w' (.slice av ds.length cv) (allV ds.length) ∧ Below W4.heap.size W4 w') := fun W h =>
        have hb := HB0.out.trans ((P4.out.trans (h.mono P4.out.size)).mono HB0.out.size)
        (all19_c _ _ ds ps W (HD.out.below hb) (HP.out.below hb) (by have := (right19_ok HR.out).2.2.1; omega)).mono fun e w' ⟨av, cv, h1, h2, h3⟩ => ⟨av, cv, h1, h2, h.trans (h3.mono h.size)⟩
      have CS2 : Hid (∀ W av cv, Below W4.heap.size W4 W → IsAt W (.slice av ds.length cv) (allV ds.length) → Calls Tryz.prog 13 #[.slice a0 ds.length c0, .slice a1 ps.length c1, .slice av ds.length cv, .agg #[.int .i64 o.sel, .int .i64 o.ord, .int .i64 o.br, .slice a2 o.ws.length c2], .int .i64 (m : Int), .int .i64 10000] W fun e w' => ∃ ar cr, e = .returned (.tuple #[.slice ar ((allF ds ps o).take m).length cr, .int .i64 0]) ∧ LsAt w' (.slice ar ((allF ds ps o).take m).length cr) ((allF ds ps o).take m) ∧ Below W4.heap.size W4 w') := fun W av cv h hi => by
        have hb := HB0.out.trans ((P4.out.trans (h.mono P4.out.size)).mono HB0.out.size)
        have hs := solveAll_c (.slice a0 ds.length c0) (.slice a1 ps.length c1) (.slice av ds.length cv) (.slice a2 o.ws.length c2) o ds ps m W (HD.out.below hb) (HP.out.below hb) hi (HO.out.below hb) HR.out HK1.out (by omega) (by omega)
        exact hs.mono fun e w' ⟨ar, cr, h1, h2, h3⟩ => ⟨ar, cr, h1, h2, h.trans (h3.mono h.size)⟩
      have HSW2 : Hid (∀ W', Below W4.heap.size W4 W' → (fun W' => W'.cell? ⟨w.heap.size, 0, none⟩ = some (.slice a0 ds.length c0) ∧ W'.cell? ⟨w.heap.size, 1, none⟩ = some (.slice a1 ps.length c1) ∧ W'.cell? ⟨w.heap.size + 1, 0, none⟩ = some (.int .i64 o.sel) ∧ W'.cell? ⟨w.heap.size + 1, 1, none⟩ = some (.int .i64 o.ord) ∧ W'.cell? ⟨w.heap.size + 1, 2, none⟩ = some (.int .i64 o.br) ∧ W'.cell? ⟨w.heap.size + 1, 3, none⟩ = some (.slice a2 o.ws.length c2)) W') := fun W' h => HC.out W' (P4.out.trans (h.mono P4.out.size))
      obtain ⟨s0, s1, s2, s3, s4, s5⟩ := HSW2.out W4 (Below.refl _ _)
      go_upto_region 5 with fail
      go_region_held3 (fun W' => W'.cell? ⟨w.heap.size, 0, none⟩ = some (.slice a0 ds.length c0) ∧ W'.cell? ⟨w.heap.size, 1, none⟩ = some (.slice a1 ps.length c1) ∧ W'.cell? ⟨w.heap.size + 1, 0, none⟩ = some (.int .i64 o.sel) ∧ W'.cell? ⟨w.heap.size + 1, 1, none⟩ = some (.int .i64 o.ord) ∧ W'.cell? ⟨w.heap.size + 1, 2, none⟩ = some (.int .i64 o.br) ∧ W'.cell? ⟨w.heap.size + 1, 3, none⟩ = some (.slice a2 o.ws.length c2)) ((first | exact HSW2.out _ QW6.out | exact HSW2.out _ QW5.out | (refine HSW2.out _ ?_; go_grown)))
        (first
          | (go_at_call 14; refine (CA2.out _ ?_).mono ?_; (· go_grown); rintro e W5 ⟨av2, cv2, rfl, i2, bw⟩; have QW5 := Lib.hid bw; have I2 := Lib.hid i2; clear bw i2)
          | (go_at_call 13; (with_reducible refine (CS2.out _ _ _ QW5.out I2.out).mono ?_); rintro e W6 ⟨ar2, cr2, rfl, l2, bw⟩; have QW6 := Lib.hid bw; have L2 := Lib.hid l2; clear bw l2))
      clear s0 s1 s2 s3 s4 s5
      have P6 := Lib.hid (P4.out.trans (QW6.out.mono P4.out.size))
      have BI6 := Lib.hid (HB0.out.trans (P6.out.mono HB0.out.size))
      obtain ⟨y0, y1, _⟩ := HC.out W6 P6.out
      obtain ⟨_, _, h4, hpr, hsm⟩ := right19_ok HR.out
      have CE := Lib.hid (every_c _ _ ds ps W6 (HD.out.below BI6.out) (HP.out.below BI6.out) HR.out hpr h4 hsm)
      have HLE := HF.out.2.2.2.1
      have e2 : (((allF ds ps o).length : Int) != ((everyL ds ps).length : Int)) = false := by rw [HLE]; simp
      have LA := Lib.hid (L1.out.below (QW6.out))
      have HXL : Hid (∀ z ∈ (allF ds ps o).take m, z.length ≤ 4096) := fun z hz => by
        have h1 := (HF.out.2.1 z).1 (List.mem_of_mem_take hz)
        have h2 := ((every_mem ds ps z).1 h1).1.1
        rw [List.length_map] at h2
        omega
      have hmn : (allF ds ps o).take (min m (allF ds ps o).length) = (allF ds ps o).take m := by rw [List.take_eq_take_iff]; omega
      have HMN := Lib.hid hmn
      clear h4 hpr hsm HLE hmn
      generalize (allF ds ps o) = L at *
      have hcc := LA.out.shape
      obtain ⟨_, _, hce, hcl, _⟩ := hcc
      simp only [Value.slice.injEq] at hce
      obtain ⟨rfl, _, rfl⟩ := hce
      have hmn2 : True := trivial
      by_cases hml : m ≤ L.length
      · have he : min m L.length = m := by omega
        rw [he]
        have hmi : min (m : Int) (L.length : Int) = (m : Int) := by omega
        have hcm : (0 : Int) ≤ m := by omega
        have hcr1 : (m : Int) ≤ cr1 := by omega
        have CSM : Hid (∀ W, Below W6.heap.size W6 W → Calls Tryz.prog 18 #[.slice ar2 m cr2, .slice ar1 m cr1] W fun e w' => e = .returned (.bool true) ∧ Below W.heap.size W w') := fun W h => by
          have h1 := L2.out.below h
          have h2 := (LA.out.below h).cut (m := m) (by omega)
          rw [List.length_take, he] at h1
          have h3 := HMN.out
          rw [he] at h3
          rw [h3] at h2
          have := sames_c _ _ (L.take m) (L.take m) W h1 h2 (by rw [List.length_take]; omega) HXL.out
          rwa [decide_eq_true rfl] at this
        clear hmn2
        go_wp2_with (first
          | (go_at_call 15; (with_reducible refine CE.out.mono ?_); rintro e W8 ⟨ae, ce, rfl, _, bb⟩; have B8 := Lib.hid bb; clear bb)
          | (go_at_call 18; (with_reducible refine (CSM.out _ B8.out).mono ?_); rintro e W9 ⟨rfl, bb⟩; have B9 := Lib.hid (BI6.out.trans ((B8.out.trans (bb.mono B8.out.size)).mono BI6.out.size)); clear bb))
        go_ret
        exact ⟨rfl, B9.out⟩
      · have he : min m L.length = L.length := by omega
        rw [he]
        have hmi : min (m : Int) (L.length : Int) = (L.length : Int) := by omega
        have hcm : (0 : Int) ≤ L.length := by omega
        have hcr1 : (L.length : Int) ≤ cr1 := by omega
        have CSM : Hid (∀ W, Below W6.heap.size W6 W → Calls Tryz.prog 18 #[.slice ar2 L.length cr2, .slice ar1 L.length cr1] W fun e w' => e = .returned (.bool true) ∧ Below W.heap.size W w') := fun W h => by
          have h1 := L2.out.below h
          have h2 := (LA.out.below h).cut (m := L.length) (by omega)
          rw [List.length_take, he] at h1
          have h3 := HMN.out
          rw [he] at h3
          rw [h3] at h2
          have := sames_c _ _ (L.take m) (L.take m) W h1 h2 (by rw [List.length_take]; omega) HXL.out
          rwa [decide_eq_true rfl] at this
        clear hmn2
        go_wp2_with (first
          | (go_at_call 15; (with_reducible refine CE.out.mono ?_); rintro e W8 ⟨ae, ce, rfl, _, bb⟩; have B8 := Lib.hid bb; clear bb)
          | (go_at_call 18; (with_reducible refine (CSM.out _ B8.out).mono ?_); rintro e W9 ⟨rfl, bb⟩; have B9 := Lib.hid (BI6.out.trans ((B8.out.trans (bb.mono B8.out.size)).mono BI6.out.size)); clear bb))
        go_ret
        exact ⟨rfl, B9.out⟩
end Go.Proofs.YtaekdgikgbdnnaaGreat
