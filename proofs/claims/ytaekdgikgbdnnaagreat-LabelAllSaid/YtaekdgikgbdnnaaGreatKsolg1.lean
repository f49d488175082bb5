/-
  LabelAll, walked.
-/
import Derived.Test.YtaekdgikgbdnnaaGreatKsol8
namespace Go.Proofs.YtaekdgikgbdnnaaGreat
open Go.RowKit

def plainB (sel ord br : Int) : Bool := sel == 0 && (ord == 0 && br == 0)
set_option maxRecDepth 100000 in
theorem plain_c (sel ord br : Int) (aw : Option Addr) (n cw : Nat) (w : World) :
    Calls Tryz.prog 19 #[.agg #[.int .i64 sel, .int .i64 ord, .int .i64 br, .slice aw n cw]] w fun e w' => e = .returned (.bool (plainB sel ord br)) ∧ Below w.heap.size w w' := by
  have HZ := Lib.hid (boxZ w (.int .i64 sel) (.int .i64 ord) (.int .i64 br) (.slice aw n cw) 28)
  have HB := BoxL.mk' w #[.int .i64 sel, .int .i64 ord, .int .i64 br, .slice aw n cw] 28
  obtain ⟨l0, _⟩ := HB.get 0 rfl
  obtain ⟨l1, _⟩ := HB.get 1 rfl
  obtain ⟨l2, _⟩ := HB.get 2 rfl
  clear HB
  unfold plainB
  cases h0 : (sel == 0) <;> cases h1 : (ord == 0) <;> cases h2 : (br == 0) <;>
  · go_enter Tryz.func19, Tryz.ntmps19
    go_wp2
    go_ret
    exact ⟨rfl, HZ.out⟩
theorem count_one {α : Type} [DecidableEq α] {x : α} : ∀ {L : List α}, L.Nodup → x ∈ L → (L.filter (fun z => decide (z = x))).length = 1
  | [], _, h => by simp at h
  | a :: L, hn, h => by
    obtain ⟨h1, h2⟩ := List.nodup_cons.1 hn
    by_cases e : a = x
    · subst e
      rw [List.filter_cons, if_pos (by simp), List.length_cons]
      have : L.filter (fun z => decide (z = a)) = [] := by
        rw [List.filter_eq_nil_iff]
        intro z hz
        simp
        intro e
        subst e
        exact h1 hz
      rw [this]; rfl
    · rw [List.filter_cons, if_neg (by simpa using e)]
      rcases List.mem_cons.1 h with h | h
      · exact absurd h.symm e
      · exact count_one h2 h
set_option maxRecDepth 1000000 in
set_option maxHeartbeats 6400000 in
theorem labelAll_any (vds vps v1 : Value) (o : SOpt) (ds : Ds) (ps : List PL) (w : World) (hd : DsAt w vds ds) (hp : PsAt w vps ps) (hw1 : IsAt w v1 o.ws) :
    Calls Tryz.prog 5 #[.agg #[vds, vps], .agg #[.int .i64 o.sel, .int .i64 o.ord, .int .i64 o.br, v1]] w fun e w' => e = .returned (.bool true) ∧ Below w.heap.size w w' := by
  obtain ⟨a0, c0, rfl, _⟩ := hd.shape
  obtain ⟨a1, c1, rfl, _⟩ := hp.shape
  obtain ⟨a2, c2, rfl, _⟩ := hw1.shape'
  obtain ⟨W0, hW0⟩ : ∃ W0, W0 = (w.alloc (.cells #[.slice a0 ds.length c0, .slice a1 ps.length c1] 25)).alloc (.cells #[.int .i64 o.sel, .int .i64 o.ord, .int .i64 o.br, .slice a2 o.ws.length c2] 28) := ⟨_, rfl⟩
  have hb0 : Below w.heap.size w W0 := by rw [hW0]; exact ((Below.refl _ w).alloc (Nat.le_refl _) _).alloc (by simp) _
  have hs0 : W0.heap.size = w.heap.size + 2 := by rw [hW0]; simp
  have hL1 : BoxL W0 w.heap.size [.slice a0 ds.length c0, .slice a1 ps.length c1] := by
    rw [hW0]
    exact (BoxL.mk' w #[.slice a0 ds.length c0, .slice a1 ps.length c1] _).below ((Below.refl _ _).alloc (Nat.le_refl _) _) (by simp)
  have hL2 : BoxL W0 (w.heap.size + 1) [.int .i64 o.sel, .int .i64 o.ord, .int .i64 o.br, .slice a2 o.ws.length c2] := by
    have h := BoxL.mk' (w.alloc (.cells #[.slice a0 ds.length c0, .slice a1 ps.length c1] 25)) #[.int .i64 o.sel, .int .i64 o.ord, .int .i64 o.br, .slice a2 o.ws.length c2] 28
    rw [show (w.alloc (.cells #[.slice a0 ds.length c0, .slice a1 ps.length c1] 25)).heap.size = w.heap.size + 1 by simp] at h
    rw [hW0]; exact h
  have HB0 := Lib.hid hb0
  have HL1 := Lib.hid hL1
  have HL2 := Lib.hid hL2
  have HW := Lib.hid hW0.symm
  have HD := Lib.hid hd
  have HP := Lib.hid hp
  have HO := Lib.hid hw1
  clear hb0 hL1 hL2 hW0 hd hp hw1
  have HC : Hid (∀ W, Below W0.heap.size W0 W → W.cell? ⟨w.heap.size, 0, none⟩ = some (.slice a0 ds.length c0) ∧ W.cell? ⟨w.heap.size, 1, none⟩ = some (.slice a1 ps.length c1) ∧
      W.cell? ⟨w.heap.size + 1, 0, none⟩ = some (.int .i64 o.sel) ∧ W.cell? ⟨w.heap.size + 1, 1, none⟩ = some (.int .i64 o.ord) ∧ W.cell? ⟨w.heap.size + 1, 2, none⟩ = some (.int .i64 o.br) ∧ W.cell? ⟨w.heap.size + 1, 3, none⟩ = some (.slice a2 o.ws.length c2)) := fun W h =>
    have e1 := HL1.out.below h (by omega)
    have e2 := HL2.out.below h (by omega)
    ⟨(e1.get 0 rfl).1, (e1.get 1 rfl).1, (e2.get 0 rfl).1, (e2.get 1 rfl).1, (e2.get 2 rfl).1, (e2.get 3 rfl).1⟩
  obtain ⟨z0, z1, z2, z3, z4, z5⟩ := HC.out W0 (Below.refl _ _)
  have CR := Lib.hid (right19_c _ _ ds ps W0 (HD.out.below HB0.out) (HP.out.below HB0.out))
  have CBAD : Hid (∀ W, Calls Tryz.prog 12 #[.agg #[.int .i64 0, .int .i64 0, .int .i64 9, .slice none 0 0]] W fun e w' => e = .returned (.int .i64 190) ∧ Below W.heap.size W w') := fun W => optBad_c 0 0 9 W rfl
  cases hr : right19 ds ps with
  | false =>
    rw [hr] at CR
    clear hr
    go_enter Tryz.func5, Tryz.ntmps5
    go_upto_region 1 with fail
    rw [HW.out]
    go_wp2_with (first
      | (go_at_call 10; (with_reducible refine CR.out.mono ?_); rintro e W1 ⟨rfl, bb⟩; have P1 := Lib.hid bb; obtain ⟨y0, y1, y2, y3, y4, y5⟩ := HC.out _ bb; clear bb)
      | (go_at_call 12; (with_reducible refine (CBAD.out _).mono ?_); rintro e WB ⟨rfl, bb⟩; have PB := Lib.hid (HB0.out.trans ((P1.out.trans (bb.mono P1.out.size)).mono HB0.out.size)); clear bb))
    go_ret
    exact ⟨rfl, PB.out⟩
  | true =>
    rw [hr] at CR
    have HR := Lib.hid hr
    clear hr
    have CK1 := Lib.hid (refLabCheck_c o.sel o.ord o.br a2 o.ws.length c2)
    by_cases h1 : 100 < o.ws.length
    · go_enter Tryz.func5, Tryz.ntmps5
      go_upto_region 1 with fail
      rw [HW.out]
      go_wp2_with (first
        | (go_at_call 10; (with_reducible refine CR.out.mono ?_); rintro e W1 ⟨rfl, bb⟩; have P1 := Lib.hid bb; obtain ⟨y0, y1, y2, y3, y4, y5⟩ := HC.out _ bb; clear bb)
        | (go_at_call 12; (with_reducible refine (CBAD.out _).mono ?_); rintro e WB ⟨rfl, bb⟩; have PB := Lib.hid (HB0.out.trans ((P1.out.trans (bb.mono P1.out.size)).mono HB0.out.size)); clear bb))
      go_ret
      exact ⟨rfl, PB.out⟩
    cases hk1 : decide (labChk o.sel o.ord o.br o.ws.length = 0) with
    | false =>
      have hk1' : (labChk o.sel o.ord o.br o.ws.length != 0) = true := by simpa using hk1
      clear hk1
      generalize labChk o.sel o.ord o.br o.ws.length = kk at *
      go_enter Tryz.func5, Tryz.ntmps5
      go_upto_region 1 with fail
      rw [HW.out]
      go_wp2_with (first
        | (go_at_call 10; (with_reducible refine CR.out.mono ?_); rintro e W1 ⟨rfl, bb⟩; have P1 := Lib.hid bb; obtain ⟨y0, y1, y2, y3, y4, y5⟩ := HC.out _ bb; clear bb)
        | (go_at_call 11; (with_reducible refine (CK1.out _).mono ?_); rintro e W2 ⟨rfl, bb⟩; have P2 := Lib.hid (P1.out.trans (bb.mono P1.out.size)); obtain ⟨x0, x1, x2, x3, x4, x5⟩ := HC.out _ P2.out; clear bb)
        | (go_at_call 12; (with_reducible refine (CBAD.out _).mono ?_); rintro e WB ⟨rfl, bb⟩; have PB := Lib.hid (HB0.out.trans ((P2.out.trans (bb.mono P2.out.size)).mono HB0.out.size)); clear bb))
      go_ret
      exact ⟨rfl, PB.out⟩
    | true =>
      have hk1 := of_decide_eq_true hk1
      have HK1 := Lib.hid hk1
      rw [hk1] at CK1
      clear hk1
      obtain ⟨_, hor1, hbr1⟩ := labChk_sound HK1.out
      have HF := Lib.hid (allF_ok HR.out hor1 hbr1)
      have hl1 : (allF ds ps o).length ≤ 200 := HF.out.2.2.2.2
      clear hor1 hbr1
      go_enter Tryz.func5, Tryz.ntmps5
      go_upto_region 1 with fail
      rw [HW.out]
      go_upto_region 3 with (first
        | (go_at_call 10; (with_reducible refine CR.out.mono ?_); rintro e W1 ⟨rfl, bb⟩; have P1 := Lib.hid bb; obtain ⟨y0, y1, y2, y3, y4, y5⟩ := HC.out _ bb; clear bb)
        | (go_at_call 11; (with_reducible refine (CK1.out _).mono ?_); rintro e W2 ⟨rfl, bb⟩; have P2 := Lib.hid (P1.out.trans (bb.mono P1.out.size)); obtain ⟨x0, x1, x2, x3, x4, x5⟩ := HC.out _ P2.out; clear bb))
      have CA1 : Hid (∀ W, Below W2.heap.size W2 W → Calls Tryz.prog 14 #[.agg #[.slice a0 ds.length c0, .slice a1 ps.length c1]] W fun e w' => ∃ av cv, e = .returned (.slice av ds.length cv) ∧ IsAt w' (.slice av ds.length cv) (allV ds.length) ∧ Below W2.heap.size W2 w') := fun W h =>
        have hb := HB0.out.trans ((P2.out.trans (h.mono P2.out.size)).mono HB0.out.size)
        (all19_c _ _ ds ps W (HD.out.below hb) (HP.out.below hb) (by have := (right19_ok HR.out).2.2.1; omega)).mono fun e w' ⟨av, cv, h1, h2, h3⟩ => ⟨av, cv, h1, h2, h.trans (h3.mono h.size)⟩
      have CS1 : Hid (∀ W av cv, Below W2.heap.size W2 W → IsAt W (.slice av ds.length cv) (allV ds.length) → Calls Tryz.prog 13 #[.slice a0 ds.length c0, .slice a1 ps.length c1, .slice av ds.length cv, .agg #[.int .i64 o.sel, .int .i64 o.ord, .int .i64 o.br, .slice a2 o.ws.length c2], .int .i64 1000, .int .i64 10000] W fun e w' => ∃ ar cr, e = .returned (.tuple #[.slice ar (allF ds ps o).length cr, .int .i64 0]) ∧ LsAt w' (.slice ar (allF ds ps o).length cr) (allF ds ps o) ∧ Below W2.heap.size W2 w') := fun W av cv h hi => by
        have hb := HB0.out.trans ((P2.out.trans (h.mono P2.out.size)).mono HB0.out.size)
        have hs := solveAll_c (.slice a0 ds.length c0) (.slice a1 ps.length c1) (.slice av ds.length cv) (.slice a2 o.ws.length c2) o ds ps 1000 W (HD.out.below hb) (HP.out.below hb) hi (HO.out.below hb) HR.out HK1.out (by decide) (by decide)
        rw [allF_take HR.out HK1.out] at hs
        exact hs.mono fun e w' ⟨ar, cr, h1, h2, h3⟩ => ⟨ar, cr, h1, h2, h.trans (h3.mono h.size)⟩
      have HSW1 : Hid (∀ W', Below W2.heap.size W2 W' → (fun W' => W'.cell? ⟨w.heap.size, 0, none⟩ = some (.slice a0 ds.length c0) ∧ W'.cell? ⟨w.heap.size, 1, none⟩ = some (.slice a1 ps.length c1) ∧ W'.cell? ⟨w.heap.size + 1, 0, none⟩ = some (.int .i64 o.sel) ∧ W'.cell? ⟨w.heap.size + 1, 1, none⟩ = some (.int .i64 o.ord) ∧ W'.cell? ⟨w.heap.size + 1, 2, none⟩ = some (.int .i64 o.br) ∧ W'.cell? ⟨w.heap.size + 1, 3, none⟩ = some (.slice a2 o.ws.length c2)) W') := fun W' h => HC.out W' (P2.out.trans (h.mono P2.out.size))
      obtain ⟨s0, s1, s2, s3, s4, s5⟩ := HSW1.out W2 (Below.refl _ _)
      clear CK1 CR CBAD y0 y1 y2 y3 y4 y5 x0 x1 x2 x3 x4 x5
      go_region_held3 (fun W' => W'.cell? ⟨w.heap.size, 0, none⟩ = some (.slice a0 ds.length c0) ∧ W'.cell? ⟨w.heap.size, 1, none⟩ = some (.slice a1 ps.length c1) ∧ W'.cell? ⟨w.heap.size + 1, 0, none⟩ = some (.int .i64 o.sel) ∧ W'.cell? ⟨w.heap.size + 1, 1, none⟩ = some (.int .i64 o.ord) ∧ W'.cell? ⟨w.heap.size + 1, 2, none⟩ = some (.int .i64 o.br) ∧ W'.cell? ⟨w.heap.size + 1, 3, none⟩ = some (.slice a2 o.ws.length c2)) ((first | exact HSW1.out _ QW4.out | exact HSW1.out _ QW3.out | (refine HSW1.out _ ?_; go_grown)))
        (first
          | (go_at_call 14; refine (CA1.out _ ?_).mono ?_; (· go_grown); rintro e W3 ⟨av1, cv1, rfl, i1, bw⟩; have QW3 := Lib.hid bw; have I1 := Lib.hid i1; clear bw i1)
          | (go_at_call 13; (with_reducible refine (CS1.out _ _ _ QW3.out I1.out).mono ?_); rintro e W4 ⟨ar1, cr1, rfl, l1, bw⟩; have QW4 := Lib.hid bw; have L1 := Lib.hid l1; clear bw l1))
      clear s0 s1 s2 s3 s4 s5
      have P4 := Lib.hid (P2.out.trans (QW4.out.mono P2.out.size))
      have BI4 := Lib.hid (HB0.out.trans (P4.out.mono HB0.out.size))
      obtain ⟨y0, y1, y2, y3, y4, y5⟩ := HC.out W4 P4.out
      obtain ⟨_, _, h4, hpr, hsm⟩ := right19_ok HR.out
      have CE := Lib.hid (every_c _ _ ds ps W4 (HD.out.below BI4.out) (HP.out.below BI4.out) HR.out hpr h4 hsm)
      have HLE : Hid ((allF ds ps o).length = (everyL ds ps).length) := HF.out.2.2.2.1
      have e2 : (((allF ds ps o).length : Int) != ((everyL ds ps).length : Int)) = false := by rw [HLE.out]; simp
      have CP := Lib.hid (plain_c o.sel o.ord o.br a2 o.ws.length c2)
      have HXL : Hid (∀ z ∈ allF ds ps o, z.length ≤ 4096) := fun z hz => by
        have h1 := (HF.out.2.1 z).1 hz
        have h2 := ((every_mem ds ps z).1 h1).1.1
        rw [List.length_map] at h2
        omega
      have HPL : Hid (plainB o.sel o.ord o.br = true → allF ds ps o = everyL ds ps) := fun h => by
        unfold plainB at h
        simp only [Bool.and_eq_true, beq_iff_eq] at h
        exact allF_rise HR.out h.2.1 (.inl h.2.2) h.1
      have HCT : Hid (∀ x ∈ everyL ds ps, ((allF ds ps o).filter (fun z => decide (z = x))).length = 1) := fun x hx => count_one HF.out.2.2.1 ((HF.out.2.1 x).2 hx)
      have hel : (everyL ds ps).length ≤ 200 := every_len hpr
      clear h4 hpr hsm
      generalize allF ds ps o = L at *
      generalize everyL ds ps = E at *
      cases hpb : plainB o.sel o.ord o.br with
      | true =>
        rw [hpb] at CP
        have HEQ := HPL.out hpb
        subst HEQ
        clear hpb
        have CSM : Hid (∀ W v, Below W4.heap.size W4 W → LsAt W v L → Calls Tryz.prog 18 #[.slice ar1 L.length cr1, v] W fun e w' => e = .returned (.bool true) ∧ Below W.heap.size W w') := fun W v h hv => by
          have := sames_c _ _ L L W (L1.out.below h) hv (by omega) HXL.out
          rwa [decide_eq_true rfl] at this
        go_wp2_with (first
          | (go_at_call 15; (with_reducible refine CE.out.mono ?_); rintro e W5 ⟨ae, ce, rfl, le, bb⟩; have B5 := Lib.hid bb; have LE5 := Lib.hid le; obtain ⟨x0, x1, x2, x3, x4, x5⟩ := HC.out W5 (P4.out.trans (bb.mono P4.out.size)); clear bb le)
          | (go_at_call 19; (with_reducible refine (CP.out _).mono ?_); rintro e W6 ⟨rfl, bb⟩; have B6 := Lib.hid (B5.out.trans (bb.mono B5.out.size)); have LE6 := Lib.hid (LE5.out.below bb); clear bb)
          | (go_at_call 18; (with_reducible refine (CSM.out _ _ B6.out LE6.out).mono ?_); rintro e W9 ⟨rfl, bb⟩; have B9 := Lib.hid (BI4.out.trans ((B6.out.trans (bb.mono B6.out.size)).mono BI4.out.size)); clear bb))
        go_ret
        exact ⟨rfl, B9.out⟩
      | false =>
        rw [hpb] at CP
        clear hpb HPL
        go_wp2_with (first
          | (go_at_call 15; (with_reducible refine CE.out.mono ?_); rintro e W5 ⟨ae, ce, rfl, le, bb⟩; have B5 := Lib.hid bb; have LE5 := Lib.hid le; obtain ⟨x0, x1, x2, x3, x4, x5⟩ := HC.out W5 (P4.out.trans (bb.mono P4.out.size)); clear bb le)
          | (go_at_call 19; (with_reducible refine (CP.out _).mono ?_); rintro e W6 ⟨rfl, bb⟩; have B6 := Lib.hid (B5.out.trans (bb.mono B5.out.size)); have LE6 := Lib.hid (LE5.out.below bb); clear bb))
        have LL6 := Lib.hid (L1.out.below B6.out)
        have BI6 := Lib.hid (BI4.out.trans (B6.out.mono BI4.out.size))
        clear y0 y1 y2 y3 y4 y5 x0 x1 x2 x3 x4 x5 e2
        go_loopw [8] (fun s wr => ∃ i : Nat, i ≤ E.length ∧ s = .int .i64 i ∧ Hid (Below W6.heap.size W6 wr)) (fun s _ => E.length - (intOf s).toNat)
        case atStart => exact ⟨0, by omega, rfl, Lib.hid (Below.refl _ _)⟩
        case round =>
          obtain ⟨i, hi, rfl, HB6⟩ := hrel
          by_cases hil : i < E.length
          · have j1 : (i : Int) < E.length := by omega
            have hct := HCT.out _ (List.getElem_mem hil)
            go_wp2
            go_loopw [9, 10] (fun c s wr => ∃ k : Nat, k ≤ L.length ∧ s = .int .i64 k ∧ c = .int .i64 (((L.take k).filter (fun z => decide (z = E[i]))).length : Nat) ∧ Hid (Below W6.heap.size W6 wr)) (fun _ s _ => L.length - (intOf s).toNat)
            case atStart => exact ⟨0, by omega, rfl, rfl, HB6⟩
            case round =>
              clear HB6
              obtain ⟨k, hk, rfl, rfl, HB6⟩ := hrel
              have hcl : ((L.take k).filter (fun z => decide (z = E[i]))).length ≤ 200 := Nat.le_trans (List.length_filter_le _ _) (by rw [List.length_take]; omega)
              by_cases hkl : k < L.length
              · have j2 : (k : Int) < L.length := by omega
                obtain ⟨b1, o1, t1, d1, hh1, q1, q2, hc1, i1⟩ := (LL6.out.below HB6.out).get k hkl
                obtain ⟨b2, o2, t2, d2, hh2, q3, q4, hc2, i2⟩ := (LE6.out.below HB6.out).get i hil
                subst hh1
                subst hh2
                have HFS := Lib.hid (filter_snoc (f := fun z => decide (z = E[i])) hkl)
                have CSI0 : ∀ g : QG wr, Calls Tryz.prog 20 #[.slice t1 L[k].length d1, .slice t2 E[i].length d2] g.1 fun e w' => e = .returned (.bool (decide (L[k] = E[i]))) ∧ Below g.1.heap.size g.1 w' := fun g => sameInts_c _ _ _ _ g.1 (i1.below g.2) (i2.below g.2) (HXL.out _ (List.getElem_mem hkl))
                have u1 := qb_cell hc1
                have u2 := qb_cell hc2
                clear i1 i2 hc1 hc2 q1 q3
                cases hse : decide (L[k] = E[i]) with
                | true =>
                  rw [hse] at CSI0 HFS
                  have CSI := Lib.hid CSI0
                  clear CSI0 hse
                  generalize E[i] = x at *
                  generalize L[k] = z at *
                  go_upto_region 16 with fail
                  refine wp_region_below (by kernel_rfl) (by kernel_rfl) ?_
                  repeat (go_big_quiet_step ((go_at_call 20; with_reducible exact qb_call _ (CSI.out _))))
                  refine wpQuiet_nil ?_
                  intro w7 hw7
                  have B7 := Lib.hid (HB6.out.trans (hw7.below.mono HB6.out.size))
                  clear u1 u2
                  go_wp2
                  refine ⟨⟨k + 1, by omega, by go_num, ?_, B7⟩, by simp [intOf]; omega⟩
                  rw [HFS.out, if_pos rfl, List.length_append]; go_num
                | false =>
                  rw [hse] at CSI0 HFS
                  have CSI := Lib.hid CSI0
                  clear CSI0 hse
                  generalize E[i] = x at *
                  generalize L[k] = z at *
                  go_upto_region 16 with fail
                  refine wp_region_below (by kernel_rfl) (by kernel_rfl) ?_
                  repeat (go_big_quiet_step ((go_at_call 20; with_reducible exact qb_call _ (CSI.out _))))
                  refine wpQuiet_nil ?_
                  intro w7 hw7
                  have B7 := Lib.hid (HB6.out.trans (hw7.below.mono HB6.out.size))
                  clear u1 u2
                  go_wp2
                  refine ⟨⟨k + 1, by omega, by go_num, ?_, B7⟩, by simp [intOf]; omega⟩
                  rw [HFS.out, if_neg (by decide), List.append_nil]
              · obtain rfl : k = L.length := by omega
                rw [List.take_length, hct]
                go_wp2
                exact ⟨⟨i + 1, by omega, by go_num, HB6⟩, by simp [intOf]; omega⟩
          · obtain rfl : i = E.length := by omega
            go_wp2
            go_ret
            exact ⟨rfl, BI6.out.trans (HB6.out.mono BI6.out.size)⟩
end Go.Proofs.YtaekdgikgbdnnaaGreat
