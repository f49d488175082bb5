/-
  LabelTurned, walked.
-/
import Derived.Test.YtaekdgikgbdnnaaGreatKsol8
namespace Go.Proofs.YtaekdgikgbdnnaaGreat
open Go.RowKit

theorem LsFrom.low {B C : Nat} {w : World} {v : Value} {L : List (List Int)} (h : LsFrom B w v L) (hc : C ≤ B) : LsFrom C w v L := by
  obtain ⟨us, h1, h2, h3, h4⟩ := h
  exact ⟨us, h1, h2, fun b e => Nat.le_trans hc (h3 b e), fun j hj => by obtain ⟨u, a, b, c⟩ := h4 j hj; exact ⟨u, a, b, fun b' e => Nat.le_trans hc (c b' e)⟩⟩

set_option maxRecDepth 1000000 in
set_option maxHeartbeats 6400000 in
theorem labelTurned_any (vds vps : Value) (hv : Bool) (ds : Ds) (ps : List PL) (w : World) (hd : DsAt w vds ds) (hp : PsAt w vps ps) :
    Calls Tryz.prog 6 #[.agg #[vds, vps], .bool hv] w fun e w' => e = .returned (.bool true) ∧ Below w.heap.size w w' := by
  obtain ⟨a0, c0, rfl, _⟩ := hd.shape
  obtain ⟨a1, c1, rfl, _⟩ := hp.shape
  obtain ⟨W0, hW0⟩ : ∃ W0, W0 = w.alloc (.cells #[.slice a0 ds.length c0, .slice a1 ps.length c1] 25) := ⟨_, rfl⟩
  have hb0 : Below w.heap.size w W0 := by rw [hW0]; exact (Below.refl _ w).alloc (Nat.le_refl _) _
  have hs0 : W0.heap.size = w.heap.size + 1 := by rw [hW0]; simp
  have hL1 : BoxL W0 w.heap.size [.slice a0 ds.length c0, .slice a1 ps.length c1] := by
    rw [hW0]; exact BoxL.mk' w #[.slice a0 ds.length c0, .slice a1 ps.length c1] _
  have HB0 := Lib.hid hb0
  have HL1 := Lib.hid hL1
  have HW := Lib.hid hW0.symm
  have HD := Lib.hid hd
  have HP := Lib.hid hp
  clear hb0 hL1 hW0 hd hp
  have HC : Hid (∀ W, Below W0.heap.size W0 W → W.cell? ⟨w.heap.size, 0, none⟩ = some (.slice a0 ds.length c0) ∧ W.cell? ⟨w.heap.size, 1, none⟩ = some (.slice a1 ps.length c1)) := fun W h =>
    have e1 := HL1.out.below h (by omega)
    ⟨(e1.get 0 rfl).1, (e1.get 1 rfl).1⟩
  obtain ⟨z0, z1⟩ := HC.out W0 (Below.refl _ _)
  have CR := Lib.hid (right19_c _ _ ds ps W0 (HD.out.below HB0.out) (HP.out.below HB0.out))
  have CBAD : Hid (∀ W, Calls Tryz.prog 12 #[.agg #[.int .i64 9, .int .i64 0, .int .i64 0, .slice none 0 0]] W fun e w' => e = .returned (.int .i64 190) ∧ Below W.heap.size W w') := fun W => optBad_c 9 0 0 W rfl
  cases hr : right19 ds ps with
  | false =>
    rw [hr] at CR
    clear hr
    go_enter Tryz.func6, Tryz.ntmps6
    go_upto_region 1 with fail
    rw [HW.out]
    go_wp2_with (first
      | (go_at_call 10; (with_reducible refine CR.out.mono ?_); rintro e W1 ⟨rfl, bb⟩; have P1 := Lib.hid bb; clear bb)
      | (go_at_call 12; (with_reducible refine (CBAD.out _).mono ?_); rintro e WB ⟨rfl, bb⟩; have PB := Lib.hid (HB0.out.trans ((P1.out.trans (bb.mono P1.out.size)).mono HB0.out.size)); clear bb))
    go_ret
    exact ⟨rfl, PB.out⟩
  | true =>
    rw [hr] at CR
    have HR := Lib.hid hr
    clear hr
    cases hv with
    | true =>
      go_enter Tryz.func6, Tryz.ntmps6
      go_upto_region 1 with fail
      rw [HW.out]
      go_upto_region 6 with (first
        | (go_at_call 10; (with_reducible refine CR.out.mono ?_); rintro e W1 ⟨rfl, bb⟩; have P1 := Lib.hid bb; clear bb))
      have hob := BoxL.mk' W1 #[.int .i64 0, .int .i64 0, .int .i64 1, .slice none 0 0] 28
      have hbo : Below W1.heap.size W1 (W1.alloc (.cells #[.int .i64 0, .int .i64 0, .int .i64 1, .slice none 0 0] 28)) := (Below.refl _ _).alloc (Nat.le_refl _) _
      have hso : (W1.alloc (.cells #[.int .i64 0, .int .i64 0, .int .i64 1, .slice none 0 0] 28)).heap.size = W1.heap.size + 1 := by simp
      generalize (W1.alloc (.cells #[.int .i64 0, .int .i64 0, .int .i64 1, .slice none 0 0] 28)) = W2 at *
      obtain ⟨OB, hOB⟩ : ∃ OB, OB = W1.heap.size := ⟨_, rfl⟩
      rw [← hOB] at hob hso
      have P2 := Lib.hid (P1.out.trans (hbo.mono P1.out.size))
      have hob0 : W0.heap.size ≤ OB := by rw [hOB]; exact P1.out.size
      have BI2 := Lib.hid (HB0.out.trans (P2.out.mono HB0.out.size))
      have HOB := Lib.hid hob
      have HSW1 : Hid (∀ W', Below W2.heap.size W2 W' → (fun W' => W'.cell? ⟨w.heap.size, 0, none⟩ = some (.slice a0 ds.length c0) ∧ W'.cell? ⟨w.heap.size, 1, none⟩ = some (.slice a1 ps.length c1) ∧ W'.cell? ⟨OB, 0, none⟩ = some (.int .i64 0) ∧ W'.cell? ⟨OB, 1, none⟩ = some (.int .i64 0) ∧ W'.cell? ⟨OB, 2, none⟩ = some (.int .i64 1) ∧ W'.cell? ⟨OB, 3, none⟩ = some (.slice none 0 0)) W') := fun W' h =>
        have hc := HC.out W' (P2.out.trans (h.mono P2.out.size))
        have e := HOB.out.below h (by omega)
        ⟨hc.1, hc.2, (e.get 0 rfl).1, (e.get 1 rfl).1, (e.get 2 rfl).1, (e.get 3 rfl).1⟩
      obtain ⟨s0, s1, s2, s3, s4, s5⟩ := HSW1.out W2 (Below.refl _ _)
      rw [← hOB]
      clear hob hbo hOB CR CBAD
      have CA1 : Hid (∀ W, Below W2.heap.size W2 W → Calls Tryz.prog 14 #[.agg #[.slice a0 ds.length c0, .slice a1 ps.length c1]] W fun e w' => ∃ av cv, e = .returned (.slice av ds.length cv) ∧ IsAt w' (.slice av ds.length cv) (allV ds.length) ∧ Below W2.heap.size W2 w') := fun W h =>
        have hb := BI2.out.trans (h.mono BI2.out.size)
        (all19_c _ _ ds ps W (HD.out.below hb) (HP.out.below hb) (by have := (right19_ok HR.out).2.2.1; omega)).mono fun e w' ⟨av, cv, h1, h2, h3⟩ => ⟨av, cv, h1, h2, h.trans (h3.mono h.size)⟩
      have CS1 : Hid (∀ W av cv, Below W2.heap.size W2 W → IsAt W (.slice av ds.length cv) (allV ds.length) → Calls Tryz.prog 13 #[.slice a0 ds.length c0, .slice a1 ps.length c1, .slice av ds.length cv, .agg #[.int .i64 0, .int .i64 0, .int .i64 1, .slice none 0 0], .int .i64 1000, .int .i64 10000] W fun e w' => ∃ ar cr, e = .returned (.tuple #[.slice ar (everyL ds ps).length cr, .int .i64 0]) ∧ LsFrom W2.heap.size w' (.slice ar (everyL ds ps).length cr) (everyL ds ps) ∧ Below W2.heap.size W2 w') := fun W av cv h hi => by
        have hb := BI2.out.trans (h.mono BI2.out.size)
        have hs := solveAllN_c (.slice a0 ds.length c0) (.slice a1 ps.length c1) (.slice av ds.length cv) (.slice none 0 0) ⟨0, 0, 1, []⟩ ds ps 1000 W (HD.out.below hb) (HP.out.below hb) hi SlAt.nil HR.out rfl (by decide) (by decide)
        rw [allF_take HR.out rfl, allF_rise HR.out rfl (by decide) rfl] at hs
        exact hs.mono fun e w' ⟨ar, cr, h1, h2, h3⟩ => ⟨ar, cr, h1, h2.low (by have := h.size; omega), h.trans (h3.mono h.size)⟩
      go_region_held3 (fun W' => W'.cell? ⟨w.heap.size, 0, none⟩ = some (.slice a0 ds.length c0) ∧ W'.cell? ⟨w.heap.size, 1, none⟩ = some (.slice a1 ps.length c1) ∧ W'.cell? ⟨OB, 0, none⟩ = some (.int .i64 0) ∧ W'.cell? ⟨OB, 1, none⟩ = some (.int .i64 0) ∧ W'.cell? ⟨OB, 2, none⟩ = some (.int .i64 1) ∧ W'.cell? ⟨OB, 3, none⟩ = some (.slice none 0 0)) ((first | exact HSW1.out _ QW4.out | exact HSW1.out _ QW3.out | (refine HSW1.out _ ?_; go_grown)))
        (first
          | (go_at_call 14; refine (CA1.out _ ?_).mono ?_; (· go_grown); rintro e W3 ⟨av1, cv1, rfl, i1, bw⟩; have QW3 := Lib.hid bw; have I1 := Lib.hid i1; clear bw i1)
          | (go_at_call 13; (with_reducible refine (CS1.out _ _ _ QW3.out I1.out).mono ?_); rintro e W4 ⟨ar1, cr1, rfl, l1, bw⟩; have QW4 := Lib.hid bw; have L1 := Lib.hid l1; clear bw l1))
      clear s0 s1 s2 s3 s4 s5
      have P4 := Lib.hid (P2.out.trans (QW4.out.mono P2.out.size))
      have hobx := HOB.out.below QW4.out (by omega)
      obtain ⟨s1, f1⟩ := hobx.get 1 rfl
      have HO4 := Lib.hid hobx
      clear hobx
      go_upto_region 8 with fail
      have hsz5 : (W4.setCell ⟨OB, 1, none⟩ (.int .i64 1)).heap.size = W4.heap.size := (setCell_blk _ _ _).1
      have P5 : Hid (Below W0.heap.size W0 (W4.setCell ⟨OB, 1, none⟩ (.int .i64 1))) := P4.out.setCell (p := ⟨OB, 1, none⟩) hob0 _
      have hc5 : (W4.setCell ⟨OB, 1, none⟩ (.int .i64 1)).cell? ⟨OB, 0, none⟩ = some (.int .i64 0) ∧ (W4.setCell ⟨OB, 1, none⟩ (.int .i64 1)).cell? ⟨OB, 1, none⟩ = some (.int .i64 1) ∧ (W4.setCell ⟨OB, 1, none⟩ (.int .i64 1)).cell? ⟨OB, 2, none⟩ = some (.int .i64 1) ∧ (W4.setCell ⟨OB, 1, none⟩ (.int .i64 1)).cell? ⟨OB, 3, none⟩ = some (.slice none 0 0) :=
        ⟨cell_set_ne (HO4.out.get 0 rfl).1 (by decide), World.cell?_setCell_same _ _ _ s1, cell_set_ne (HO4.out.get 2 rfl).1 (by decide), cell_set_ne (HO4.out.get 3 rfl).1 (by decide)⟩
      have LX : Hid (LsFrom W2.heap.size (W4.setCell ⟨OB, 1, none⟩ (.int .i64 1)) (.slice ar1 (everyL ds ps).length cr1) (everyL ds ps)) := L1.out.on (Nat.le_of_eq hsz5.symm) (fun b hb _ => (setCell_blk W4 ⟨OB, 1, none⟩ _).2 b (by dsimp only; omega))
      have hsz4 := QW4.out.size
      generalize (W4.setCell ⟨OB, 1, none⟩ (.int .i64 1)) = W5 at *
      clear s1 f1
      have BI5 := Lib.hid (HB0.out.trans (P5.out.mono HB0.out.size))
      have HC5 := Lib.hid hc5
      have HSW2 : Hid (∀ W', Below W5.heap.size W5 W' → (fun W' => W'.cell? ⟨w.heap.size, 0, none⟩ = some (.slice a0 ds.length c0) ∧ W'.cell? ⟨w.heap.size, 1, none⟩ = some (.slice a1 ps.length c1) ∧ W'.cell? ⟨OB, 0, none⟩ = some (.int .i64 0) ∧ W'.cell? ⟨OB, 1, none⟩ = some (.int .i64 1) ∧ W'.cell? ⟨OB, 2, none⟩ = some (.int .i64 1) ∧ W'.cell? ⟨OB, 3, none⟩ = some (.slice none 0 0)) W') := fun W' h =>
        have hc := HC.out W' (P5.out.trans (h.mono P5.out.size))
        ⟨hc.1, hc.2, (h.cell (p := ⟨OB, 0, none⟩) (by dsimp only; omega)).trans HC5.out.1, (h.cell (p := ⟨OB, 1, none⟩) (by dsimp only; omega)).trans HC5.out.2.1, (h.cell (p := ⟨OB, 2, none⟩) (by dsimp only; omega)).trans HC5.out.2.2.1, (h.cell (p := ⟨OB, 3, none⟩) (by dsimp only; omega)).trans HC5.out.2.2.2⟩
      obtain ⟨s0, s1, s2, s3, s4, s5⟩ := HSW2.out W5 (Below.refl _ _)
      clear hc5
      have CA2 : Hid (∀ W, Below W5.heap.size W5 W → Calls Tryz.prog 14 #[.agg #[.slice a0 ds.length c0, .slice a1 ps.length c1]] W fun e w' => ∃ av cv, e = .returned (.slice av ds.length cv) ∧ IsAt w' (.slice av ds.length cv) (allV ds.length) ∧ Below W5.heap.size W5 w') := fun W h =>
        have hb := BI5.out.trans (h.mono BI5.out.size)
        (all19_c _ _ ds ps W (HD.out.below hb) (HP.out.below hb) (by have := (right19_ok HR.out).2.2.1; omega)).mono fun e w' ⟨av, cv, h1, h2, h3⟩ => ⟨av, cv, h1, h2, h.trans (h3.mono h.size)⟩
      have CS2 : Hid (∀ W av cv, Below W5.heap.size W5 W → IsAt W (.slice av ds.length cv) (allV ds.length) → Calls Tryz.prog 13 #[.slice a0 ds.length c0, .slice a1 ps.length c1, .slice av ds.length cv, .agg #[.int .i64 0, .int .i64 1, .int .i64 1, .slice none 0 0], .int .i64 1000, .int .i64 10000] W fun e w' => ∃ ar cr, e = .returned (.tuple #[.slice ar ((everyL ds ps).reverse).length cr, .int .i64 0]) ∧ LsFrom W2.heap.size w' (.slice ar ((everyL ds ps).reverse).length cr) ((everyL ds ps).reverse) ∧ Below W5.heap.size W5 w') := fun W av cv h hi => by
        have hb := BI5.out.trans (h.mono BI5.out.size)
        have hs := solveAllN_c (.slice a0 ds.length c0) (.slice a1 ps.length c1) (.slice av ds.length cv) (.slice none 0 0) ⟨0, 1, 1, []⟩ ds ps 1000 W (HD.out.below hb) (HP.out.below hb) hi SlAt.nil HR.out rfl (by decide) (by decide)
        rw [allF_take HR.out rfl, allF_fall HR.out rfl (by decide) rfl] at hs
        exact hs.mono fun e w' ⟨ar, cr, h1, h2, h3⟩ => ⟨ar, cr, h1, h2.low (by have := h.size; omega), h.trans (h3.mono h.size)⟩
      go_region_held3 (fun W' => W'.cell? ⟨w.heap.size, 0, none⟩ = some (.slice a0 ds.length c0) ∧ W'.cell? ⟨w.heap.size, 1, none⟩ = some (.slice a1 ps.length c1) ∧ W'.cell? ⟨OB, 0, none⟩ = some (.int .i64 0) ∧ W'.cell? ⟨OB, 1, none⟩ = some (.int .i64 1) ∧ W'.cell? ⟨OB, 2, none⟩ = some (.int .i64 1) ∧ W'.cell? ⟨OB, 3, none⟩ = some (.slice none 0 0)) ((first | exact HSW2.out _ QW7.out | exact HSW2.out _ QW6.out | (refine HSW2.out _ ?_; go_grown)))
        (first
          | (go_at_call 14; refine (CA2.out _ ?_).mono ?_; (· go_grown); rintro e W6 ⟨av2, cv2, rfl, i2, bw⟩; have QW6 := Lib.hid bw; have I2 := Lib.hid i2; clear bw i2)
          | (go_at_call 13; (with_reducible refine (CS2.out _ _ _ QW6.out I2.out).mono ?_); rintro e W7 ⟨ar2, cr2, rfl, l2, bw⟩; have QW7 := Lib.hid bw; have L2 := Lib.hid l2; clear bw l2))
      clear s0 s1 s2 s3 s4 s5
      have P7 := Lib.hid (P5.out.trans (QW7.out.mono P5.out.size))
      have BI7 := Lib.hid (HB0.out.trans (P7.out.mono HB0.out.size))
      obtain ⟨y0, y1⟩ := HC.out W7 P7.out
      obtain ⟨_, _, h4, hpr, hsm⟩ := right19_ok HR.out
      have CE := Lib.hid (every_c _ _ ds ps W7 (HD.out.below BI7.out) (HP.out.below BI7.out) HR.out hpr h4 hsm)
      have hel : (everyL ds ps).length ≤ 200 := every_len hpr
      have LU := Lib.hid (LX.out.at.below QW7.out)
      have LD := Lib.hid L2.out.at
      have HXL : Hid (∀ z ∈ everyL ds ps, z.length ≤ 4096) := fun z hz => by
        have h2 := ((every_mem ds ps z).1 hz).1.1
        rw [List.length_map] at h2
        omega
      clear h4 hpr hsm
      generalize everyL ds ps = E at *
      go_wp2_with (go_at_call 15; (with_reducible refine CE.out.mono ?_); rintro e W8 ⟨ae, ce, rfl, _, bb⟩; have B8 := Lib.hid bb; clear bb)
      have LU8 := Lib.hid (LU.out.below B8.out)
      have LD8 := Lib.hid (LD.out.below B8.out)
      have BI8 := Lib.hid (BI7.out.trans (B8.out.mono BI7.out.size))
      clear y0 y1
      go_loopw [10] (fun s wr => ∃ i : Nat, i ≤ E.length ∧ s = .int .i64 i ∧ Hid (Below W8.heap.size W8 wr)) (fun s _ => E.length - (intOf s).toNat)
      case atStart => exact ⟨0, by omega, rfl, Lib.hid (Below.refl _ _)⟩
      case round =>
        obtain ⟨i, hi, rfl, HB9⟩ := hrel
        by_cases hil : i < E.length
        · have j1 : (i : Int) < E.length := by omega
          obtain ⟨m, hm⟩ : ∃ m : Nat, (E.length : Int) - 1 - i = (m : Int) := ⟨E.length - 1 - i, by omega⟩
          have hml : m < E.length := by omega
          have hml2 : m < E.reverse.length := by rw [List.length_reverse]; exact hml
          have j2 : (m : Int) < E.length := by omega
          have j3 : (0 : Int) ≤ m := by omega
          obtain ⟨b1, o1, t1, d1, hh1, q1, q2, hc1, i1⟩ := (LU8.out.below HB9.out).get i hil
          obtain ⟨b2, o2, t2, d2, hh2, q3, q4, hc2, i2⟩ := (LD8.out.below HB9.out).get m hml2
          subst hh1
          subst hh2
          have hee : E.reverse[m] = E[i] := by
            rw [List.getElem_reverse]
            congr 1
            omega
          rw [hee] at hc2 i2
          have CSI : Hid (∀ g : QG wr, Calls Tryz.prog 20 #[.slice t1 E[i].length d1, .slice t2 E[i].length d2] g.1 fun e w' => e = .returned (.bool true) ∧ Below g.1.heap.size g.1 w') := fun g => by
            have := sameInts_c _ _ E[i] E[i] g.1 (i1.below g.2) (i2.below g.2) (HXL.out _ (List.getElem_mem hil))
            rwa [decide_eq_true rfl] at this
          have u1 := qb_cell hc1
          have u2 := qb_cell hc2
          clear i1 i2 hc1 hc2 q1 q3 hee hml2
          generalize E[i] = x at *
          have hrl : E.reverse.length = E.length := List.length_reverse
          go_upto_region 14 with fail
          refine wp_region_below (by kernel_rfl) (by kernel_rfl) ?_
          repeat (go_big_quiet_step ((go_at_call 20; with_reducible exact qb_call _ (CSI.out _))))
          refine wpQuiet_nil ?_
          intro w7 hw7
          have B9 := Lib.hid (HB9.out.trans (hw7.below.mono HB9.out.size))
          clear u1 u2
          go_wp2
          exact ⟨⟨i + 1, by omega, by go_num, B9⟩, by simp [intOf]; omega⟩
        · obtain rfl : i = E.length := by omega
          go_wp2
          go_ret
          exact ⟨rfl, BI8.out.trans (HB9.out.mono BI8.out.size)⟩
    | false =>
      go_enter Tryz.func6, Tryz.ntmps6
      go_upto_region 1 with fail
      rw [HW.out]
      go_upto_region 6 with (first
        | (go_at_call 10; (with_reducible refine CR.out.mono ?_); rintro e W1 ⟨rfl, bb⟩; have P1 := Lib.hid bb; clear bb))
      have hob := BoxL.mk' W1 #[.int .i64 0, .int .i64 0, .int .i64 0, .slice none 0 0] 28
      have hbo : Below W1.heap.size W1 (W1.alloc (.cells #[.int .i64 0, .int .i64 0, .int .i64 0, .slice none 0 0] 28)) := (Below.refl _ _).alloc (Nat.le_refl _) _
      have hso : (W1.alloc (.cells #[.int .i64 0, .int .i64 0, .int .i64 0, .slice none 0 0] 28)).heap.size = W1.heap.size + 1 := by simp
      generalize (W1.alloc (.cells #[.int .i64 0, .int .i64 0, .int .i64 0, .slice none 0 0] 28)) = W2 at *
      obtain ⟨OB, hOB⟩ : ∃ OB, OB = W1.heap.size := ⟨_, rfl⟩
      rw [← hOB] at hob hso
      have P2 := Lib.hid (P1.out.trans (hbo.mono P1.out.size))
      have hob0 : W0.heap.size ≤ OB := by rw [hOB]; exact P1.out.size
      have BI2 := Lib.hid (HB0.out.trans (P2.out.mono HB0.out.size))
      have HOB := Lib.hid hob
      have HSW1 : Hid (∀ W', Below W2.heap.size W2 W' → (fun W' => W'.cell? ⟨w.heap.size, 0, none⟩ = some (.slice a0 ds.length c0) ∧ W'.cell? ⟨w.heap.size, 1, none⟩ = some (.slice a1 ps.length c1) ∧ W'.cell? ⟨OB, 0, none⟩ = some (.int .i64 0) ∧ W'.cell? ⟨OB, 1, none⟩ = some (.int .i64 0) ∧ W'.cell? ⟨OB, 2, none⟩ = some (.int .i64 0) ∧ W'.cell? ⟨OB, 3, none⟩ = some (.slice none 0 0)) W') := fun W' h =>
        have hc := HC.out W' (P2.out.trans (h.mono P2.out.size))
        have e := HOB.out.below h (by omega)
        ⟨hc.1, hc.2, (e.get 0 rfl).1, (e.get 1 rfl).1, (e.get 2 rfl).1, (e.get 3 rfl).1⟩
      obtain ⟨s0, s1, s2, s3, s4, s5⟩ := HSW1.out W2 (Below.refl _ _)
      rw [← hOB]
      clear hob hbo hOB CR CBAD
      have CA1 : Hid (∀ W, Below W2.heap.size W2 W → Calls Tryz.prog 14 #[.agg #[.slice a0 ds.length c0, .slice a1 ps.length c1]] W fun e w' => ∃ av cv, e = .returned (.slice av ds.length cv) ∧ IsAt w' (.slice av ds.length cv) (allV ds.length) ∧ Below W2.heap.size W2 w') := fun W h =>
        have hb := BI2.out.trans (h.mono BI2.out.size)
        (all19_c _ _ ds ps W (HD.out.below hb) (HP.out.below hb) (by have := (right19_ok HR.out).2.2.1; omega)).mono fun e w' ⟨av, cv, h1, h2, h3⟩ => ⟨av, cv, h1, h2, h.trans (h3.mono h.size)⟩
      have CS1 : Hid (∀ W av cv, Below W2.heap.size W2 W → IsAt W (.slice av ds.length cv) (allV ds.length) → Calls Tryz.prog 13 #[.slice a0 ds.length c0, .slice a1 ps.length c1, .slice av ds.length cv, .agg #[.int .i64 0, .int .i64 0, .int .i64 0, .slice none 0 0], .int .i64 1000, .int .i64 10000] W fun e w' => ∃ ar cr, e = .returned (.tuple #[.slice ar (everyL ds ps).length cr, .int .i64 0]) ∧ LsFrom W2.heap.size w' (.slice ar (everyL ds ps).length cr) (everyL ds ps) ∧ Below W2.heap.size W2 w') := fun W av cv h hi => by
        have hb := BI2.out.trans (h.mono BI2.out.size)
        have hs := solveAllN_c (.slice a0 ds.length c0) (.slice a1 ps.length c1) (.slice av ds.length cv) (.slice none 0 0) ⟨0, 0, 0, []⟩ ds ps 1000 W (HD.out.below hb) (HP.out.below hb) hi SlAt.nil HR.out rfl (by decide) (by decide)
        rw [allF_take HR.out rfl, allF_rise HR.out rfl (by decide) rfl] at hs
        exact hs.mono fun e w' ⟨ar, cr, h1, h2, h3⟩ => ⟨ar, cr, h1, h2.low (by have := h.size; omega), h.trans (h3.mono h.size)⟩
      go_region_held3 (fun W' => W'.cell? ⟨w.heap.size, 0, none⟩ = some (.slice a0 ds.length c0) ∧ W'.cell? ⟨w.heap.size, 1, none⟩ = some (.slice a1 ps.length c1) ∧ W'.cell? ⟨OB, 0, none⟩ = some (.int .i64 0) ∧ W'.cell? ⟨OB, 1, none⟩ = some (.int .i64 0) ∧ W'.cell? ⟨OB, 2, none⟩ = some (.int .i64 0) ∧ W'.cell? ⟨OB, 3, none⟩ = some (.slice none 0 0)) ((first | exact HSW1.out _ QW4.out | exact HSW1.out _ QW3.out | (refine HSW1.out _ ?_; go_grown)))
        (first
          | (go_at_call 14; refine (CA1.out _ ?_).mono ?_; (· go_grown); rintro e W3 ⟨av1, cv1, rfl, i1, bw⟩; have QW3 := Lib.hid bw; have I1 := Lib.hid i1; clear bw i1)
          | (go_at_call 13; (with_reducible refine (CS1.out _ _ _ QW3.out I1.out).mono ?_); rintro e W4 ⟨ar1, cr1, rfl, l1, bw⟩; have QW4 := Lib.hid bw; have L1 := Lib.hid l1; clear bw l1))
      clear s0 s1 s2 s3 s4 s5
      have P4 := Lib.hid (P2.out.trans (QW4.out.mono P2.out.size))
      have hobx := HOB.out.below QW4.out (by omega)
      obtain ⟨s1, f1⟩ := hobx.get 1 rfl
      have HO4 := Lib.hid hobx
      clear hobx
      go_upto_region 8 with fail
      have hsz5 : (W4.setCell ⟨OB, 1, none⟩ (.int .i64 1)).heap.size = W4.heap.size := (setCell_blk _ _ _).1
      have P5 : Hid (Below W0.heap.size W0 (W4.setCell ⟨OB, 1, none⟩ (.int .i64 1))) := P4.out.setCell (p := ⟨OB, 1, none⟩) hob0 _
      have hc5 : (W4.setCell ⟨OB, 1, none⟩ (.int .i64 1)).cell? ⟨OB, 0, none⟩ = some (.int .i64 0) ∧ (W4.setCell ⟨OB, 1, none⟩ (.int .i64 1)).cell? ⟨OB, 1, none⟩ = some (.int .i64 1) ∧ (W4.setCell ⟨OB, 1, none⟩ (.int .i64 1)).cell? ⟨OB, 2, none⟩ = some (.int .i64 0) ∧ (W4.setCell ⟨OB, 1, none⟩ (.int .i64 1)).cell? ⟨OB, 3, none⟩ = some (.slice none 0 0) :=
        ⟨cell_set_ne (HO4.out.get 0 rfl).1 (by decide), World.cell?_setCell_same _ _ _ s1, cell_set_ne (HO4.out.get 2 rfl).1 (by decide), cell_set_ne (HO4.out.get 3 rfl).1 (by decide)⟩
      have LX : Hid (LsFrom W2.heap.size (W4.setCell ⟨OB, 1, none⟩ (.int .i64 1)) (.slice ar1 (everyL ds ps).length cr1) (everyL ds ps)) := L1.out.on (Nat.le_of_eq hsz5.symm) (fun b hb _ => (setCell_blk W4 ⟨OB, 1, none⟩ _).2 b (by dsimp only; omega))
      have hsz4 := QW4.out.size
      generalize (W4.setCell ⟨OB, 1, none⟩ (.int .i64 1)) = W5 at *
      clear s1 f1
      have BI5 := Lib.hid (HB0.out.trans (P5.out.mono HB0.out.size))
      have HC5 := Lib.hid hc5
      have HSW2 : Hid (∀ W', Below W5.heap.size W5 W' → (fun W' => W'.cell? ⟨w.heap.size, 0, none⟩ = some (.slice a0 ds.length c0) ∧ W'.cell? ⟨w.heap.size, 1, none⟩ = some (.slice a1 ps.length c1) ∧ W'.cell? ⟨OB, 0, none⟩ = some (.int .i64 0) ∧ W'.cell? ⟨OB, 1, none⟩ = some (.int .i64 1) ∧ W'.cell? ⟨OB, 2, none⟩ = some (.int .i64 0) ∧ W'.cell? ⟨OB, 3, none⟩ = some (.slice none 0 0)) W') := fun W' h =>
        have hc := HC.out W' (P5.out.trans (h.mono P5.out.size))
        ⟨hc.1, hc.2, (h.cell (p := ⟨OB, 0, none⟩) (by dsimp only; omega)).trans HC5.out.1, (h.cell (p := ⟨OB, 1, none⟩) (by dsimp only; omega)).trans HC5.out.2.1, (h.cell (p := ⟨OB, 2, none⟩) (by dsimp only; omega)).trans HC5.out.2.2.1, (h.cell (p := ⟨OB, 3, none⟩) (by dsimp only; omega)).trans HC5.out.2.2.2⟩
      obtain ⟨s0, s1, s2, s3, s4, s5⟩ := HSW2.out W5 (Below.refl _ _)
      clear hc5
      have CA2 : Hid (∀ W, Below W5.heap.size W5 W → Calls Tryz.prog 14 #[.agg #[.slice a0 ds.length c0, .slice a1 ps.length c1]] W fun e w' => ∃ av cv, e = .returned (.slice av ds.length cv) ∧ IsAt w' (.slice av ds.length cv) (allV ds.length) ∧ Below W5.heap.size W5 w') := fun W h =>
        have hb := BI5.out.trans (h.mono BI5.out.size)
        (all19_c _ _ ds ps W (HD.out.below hb) (HP.out.below hb) (by have := (right19_ok HR.out).2.2.1; omega)).mono fun e w' ⟨av, cv, h1, h2, h3⟩ => ⟨av, cv, h1, h2, h.trans (h3.mono h.size)⟩
      have CS2 : Hid (∀ W av cv, Below W5.heap.size W5 W → IsAt W (.slice av ds.length cv) (allV ds.length) → Calls Tryz.prog 13 #[.slice a0 ds.length c0, .slice a1 ps.length c1, .slice av ds.length cv, .agg #[.int .i64 0, .int .i64 1, .int .i64 0, .slice none 0 0], .int .i64 1000, .int .i64 10000] W fun e w' => ∃ ar cr, e = .returned (.tuple #[.slice ar ((everyL ds ps).reverse).length cr, .int .i64 0]) ∧ LsFrom W2.heap.size w' (.slice ar ((everyL ds ps).reverse).length cr) ((everyL ds ps).reverse) ∧ Below W5.heap.size W5 w') := fun W av cv h hi => by
        have hb := BI5.out.trans (h.mono BI5.out.size)
        have hs := solveAllN_c (.slice a0 ds.length c0) (.slice a1 ps.length c1) (.slice av ds.length cv) (.slice none 0 0) ⟨0, 1, 0, []⟩ ds ps 1000 W (HD.out.below hb) (HP.out.below hb) hi SlAt.nil HR.out rfl (by decide) (by decide)
        rw [allF_take HR.out rfl, allF_fall HR.out rfl (by decide) rfl] at hs
        exact hs.mono fun e w' ⟨ar, cr, h1, h2, h3⟩ => ⟨ar, cr, h1, h2.low (by have := h.size; omega), h.trans (h3.mono h.size)⟩
      go_region_held3 (fun W' => W'.cell? ⟨w.heap.size, 0, none⟩ = some (.slice a0 ds.length c0) ∧ W'.cell? ⟨w.heap.size, 1, none⟩ = some (.slice a1 ps.length c1) ∧ W'.cell? ⟨OB, 0, none⟩ = some (.int .i64 0) ∧ W'.cell? ⟨OB, 1, none⟩ = some (.int .i64 1) ∧ W'.cell? ⟨OB, 2, none⟩ = some (.int .i64 0) ∧ W'.cell? ⟨OB, 3, none⟩ = some (.slice none 0 0)) ((first | exact HSW2.out _ QW7.out | exact HSW2.out _ QW6.out | (refine HSW2.out _ ?_; go_grown)))
        (first
          | (go_at_call 14; refine (CA2.out _ ?_).mono ?_; (· go_grown); rintro e W6 ⟨av2, cv2, rfl, i2, bw⟩; have QW6 := Lib.hid bw; have I2 := Lib.hid i2; clear bw i2)
          | (go_at_call 13; (with_reducible refine (CS2.out _ _ _ QW6.out I2.out).mono ?_); rintro e W7 ⟨ar2, cr2, rfl, l2, bw⟩; have QW7 := Lib.hid bw; have L2 := Lib.hid l2; clear bw l2))
      clear s0 s1 s2 s3 s4 s5
      have P7 := Lib.hid (P5.out.trans (QW7.out.mono P5.out.size))
      have BI7 := Lib.hid (HB0.out.trans (P7.out.mono HB0.out.size))
      obtain ⟨y0, y1⟩ := HC.out W7 P7.out
      obtain ⟨_, _, h4, hpr, hsm⟩ := right19_ok HR.out
      have CE := Lib.hid (every_c _ _ ds ps W7 (HD.out.below BI7.out) (HP.out.below BI7.out) HR.out hpr h4 hsm)
      have hel : (everyL ds ps).length ≤ 200 := every_len hpr
      have LU := Lib.hid (LX.out.at.below QW7.out)
      have LD := Lib.hid L2.out.at
      have HXL : Hid (∀ z ∈ everyL ds ps, z.length ≤ 4096) := fun z hz => by
        have h2 := ((every_mem ds ps z).1 hz).1.1
        rw [List.length_map] at h2
        omega
      clear h4 hpr hsm
      generalize everyL ds ps = E at *
      go_wp2_with (go_at_call 15; (with_reducible refine CE.out.mono ?_); rintro e W8 ⟨ae, ce, rfl, _, bb⟩; have B8 := Lib.hid bb; clear bb)
      have LU8 := Lib.hid (LU.out.below B8.out)
      have LD8 := Lib.hid (LD.out.below B8.out)
      have BI8 := Lib.hid (BI7.out.trans (B8.out.mono BI7.out.size))
      clear y0 y1
      go_loopw [10] (fun s wr => ∃ i : Nat, i ≤ E.length ∧ s = .int .i64 i ∧ Hid (Below W8.heap.size W8 wr)) (fun s _ => E.length - (intOf s).toNat)
      case atStart => exact ⟨0, by omega, rfl, Lib.hid (Below.refl _ _)⟩
      case round =>
        obtain ⟨i, hi, rfl, HB9⟩ := hrel
        by_cases hil : i < E.length
        · have j1 : (i : Int) < E.length := by omega
          obtain ⟨m, hm⟩ : ∃ m : Nat, (E.length : Int) - 1 - i = (m : Int) := ⟨E.length - 1 - i, by omega⟩
          have hml : m < E.length := by omega
          have hml2 : m < E.reverse.length := by rw [List.length_reverse]; exact hml
          have j2 : (m : Int) < E.length := by omega
          have j3 : (0 : Int) ≤ m := by omega
          obtain ⟨b1, o1, t1, d1, hh1, q1, q2, hc1, i1⟩ := (LU8.out.below HB9.out).get i hil
          obtain ⟨b2, o2, t2, d2, hh2, q3, q4, hc2, i2⟩ := (LD8.out.below HB9.out).get m hml2
          subst hh1
          subst hh2
          have hee : E.reverse[m] = E[i] := by
            rw [List.getElem_reverse]
            congr 1
            omega
          rw [hee] at hc2 i2
          have CSI : Hid (∀ g : QG wr, Calls Tryz.prog 20 #[.slice t1 E[i].length d1, .slice t2 E[i].length d2] g.1 fun e w' => e = .returned (.bool true) ∧ Below g.1.heap.size g.1 w') := fun g => by
            have := sameInts_c _ _ E[i] E[i] g.1 (i1.below g.2) (i2.below g.2) (HXL.out _ (List.getElem_mem hil))
            rwa [decide_eq_true rfl] at this
          have u1 := qb_cell hc1
          have u2 := qb_cell hc2
          clear i1 i2 hc1 hc2 q1 q3 hee hml2
          generalize E[i] = x at *
          have hrl : E.reverse.length = E.length := List.length_reverse
          go_upto_region 14 with fail
          refine wp_region_below (by kernel_rfl) (by kernel_rfl) ?_
          repeat (go_big_quiet_step ((go_at_call 20; with_reducible exact qb_call _ (CSI.out _))))
          refine wpQuiet_nil ?_
          intro w7 hw7
          have B9 := Lib.hid (HB9.out.trans (hw7.below.mono HB9.out.size))
          clear u1 u2
          go_wp2
          exact ⟨⟨i + 1, by omega, by go_num, B9⟩, by simp [intOf]; omega⟩
        · obtain rfl : i = E.length := by omega
          go_wp2
          go_ret
          exact ⟨rfl, BI8.out.trans (HB9.out.mono BI8.out.size)⟩
end Go.Proofs.YtaekdgikgbdnnaaGreat
