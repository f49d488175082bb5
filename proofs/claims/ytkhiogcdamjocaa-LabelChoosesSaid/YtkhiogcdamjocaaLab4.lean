/-
  LabelChooses, walked.
-/
import Derived.Test.YtkhiogcdamjocaaLab3
import Derived.Test.YtkhiogcdamjocaaSame
import Derived.Deep.RegionHeld3
import Derived.Handy
namespace Go.Proofs.Ytkhiogcdamjocaa
open Go.RowKit

theorem dsAt_lit2 {w : World} {v u : Value} {d f : List Rg} (h : RgAt w v d) (g : RgAt w u f) (T : TypeId) : DsAt (w.alloc (.cells #[v, u] T)) (.slice (some ⟨w.heap.size, 0, none⟩) 2 2) [d, f] := by
  have hs : SlAt (w.alloc (.cells #[v, u] T)) 1 (.slice (some ⟨w.heap.size, 0, none⟩) 2 2) 2 [v, u] := SlAt.of_own (e := T) (World.ownsRow_lit (base := 0) w #[v, u] 2 (Nat.zero_le _) (by simp [maxLen]) rfl)
  refine ⟨[v, u], rfl, hs, fun j hj => ?_⟩
  match j, hj with
  | 0, _ => exact ⟨v, rfl, SlAt.alloc h _⟩
  | 1, _ => exact ⟨u, rfl, SlAt.alloc g _⟩
theorem labChk_ok {sel ord br : Int} {n : Nat} (h : labChk sel ord br n = 0) : (sel = 0 ∨ sel = 1 ∨ sel = 2 ∨ sel = 3 ∨ sel = 4) ∧ (ord = 0 ∨ ord = 1) ∧ (br = 0 ∨ br = 1) := by
  unfold labChk at h
  split at h
  · cases h
  · omega

set_option maxRecDepth 100000 in
set_option maxHeartbeats 6400000 in
theorem labelChooses_any (vds vv vw : Value) (sel ord br : Int) (ds : Ds) (vars ws : List Int) (w : World) (hd : DsAt w vds ds) (hv : IsAt w vv vars) (hw : IsAt w vw ws) :
    Calls Try.prog 6 #[vds, vv, .agg #[.int .i64 sel, .int .i64 ord, .int .i64 br, vw]] w fun e w' => e = .returned (.bool true) ∧ Below w.heap.size w w' := by
  obtain ⟨a0, c0, rfl, _⟩ := hd.shape
  obtain ⟨a1, c1, rfl, _⟩ := hv.shape'
  obtain ⟨a2, c2, rfl, _⟩ := hw.shape'
  have HZ := Lib.hid (boxZ w (.int .i64 sel) (.int .i64 ord) (.int .i64 br) (.slice a2 ws.length c2) 45)
  have HB := Lib.hid (BoxL.mk' w #[.int .i64 sel, .int .i64 ord, .int .i64 br, .slice a2 ws.length c2] 45)
  have HD := Lib.hid hd
  have HV := Lib.hid hv
  have HW := Lib.hid hw
  clear hd hv hw
  by_cases g1 : 8 < ds.length
  · go_enter Try.func6, Try.ntmps6
    go_wp2
    go_ret
    exact ⟨rfl, HZ.out⟩
  by_cases g2 : 8 < vars.length
  · go_enter Try.func6, Try.ntmps6
    go_wp2
    go_ret
    exact ⟨rfl, HZ.out⟩
  by_cases g3 : 100 < ws.length
  · go_enter Try.func6, Try.ntmps6
    go_wp2
    go_ret
    exact ⟨rfl, HZ.out⟩
  go_enter Try.func6, Try.ntmps6
  go_wp2
  generalize hW0 : (w.alloc (.cells #[.int .i64 sel, .int .i64 ord, .int .i64 br, .slice a2 ws.length c2] 45)) = W0 at *
  clear hW0
  obtain ⟨l0, _⟩ := HB.out.get 0 rfl
  obtain ⟨l1, _⟩ := HB.out.get 1 rfl
  obtain ⟨l2, _⟩ := HB.out.get 2 rfl
  obtain ⟨l3, _⟩ := HB.out.get 3 rfl
  go_loop [7] (fun s => ∃ k : Nat, k ≤ ds.length ∧ s = .int .i64 k ∧ Hid (∀ d ∈ ds.take k, d.length ≤ 20)) (fun s => ds.length - (intOf s).toNat)
  case atStart => exact ⟨0, by omega, rfl, fun d h => by simp at h⟩
  case round =>
    obtain ⟨k, hk, rfl, HE⟩ := hrel
    by_cases hlt : k < ds.length
    · obtain ⟨b, off, ao, cap, rfl, q1, q2, _, hc, _⟩ := HD.out.get k hlt
      have j1 : (k : Int) < ds.length := by omega
      rw [← HZ.out.cell (p := ⟨b, off + k, none⟩) q2] at hc
      have HS : Hid (ds[k].length ≤ 20 → ∀ d ∈ ds.take (k + 1), d.length ≤ 20) := fun h d hd => by
        rw [List.take_succ_eq_append_getElem hlt] at hd
        rcases List.mem_append.1 hd with h1 | h1
        · exact HE.out d h1
        · simp at h1; subst h1; exact h
      generalize ds[k] = d at *
      by_cases hx : 20 < d.length
      · go_wp2
        go_ret
        exact ⟨rfl, HZ.out⟩
      · have HS2 := Lib.hid (HS.out (by omega))
        go_wp2
        exact ⟨⟨k + 1, by omega, by go_num, HS2⟩, by simp [intOf]; omega⟩
    · obtain rfl : k = ds.length := by omega
      rw [List.take_length] at HE
      have CK := Lib.hid (labCheck_c sel ord br a2 ws.length c2)
      have CK2 := Lib.hid (refLabCheck_c sel ord br a2 ws.length c2)
      have hbl := HB.out.lt (by simp)
      by_cases hck : labChk sel ord br ws.length = 0
      case neg =>
        have hne : (labChk sel ord br ws.length != 0) = true := by simpa using hck
        clear hck
        generalize labChk sel ord br ws.length = ck at *
        go_wp2_with (first
          | (go_at_call 18; (with_reducible refine (CK.out _).mono ?_); rintro e W1 ⟨rfl, bb⟩; have Q1 := Lib.hid bb; obtain ⟨m0, _⟩ := (HB.out.below Q1.out hbl).get 0 rfl; obtain ⟨m1, _⟩ := (HB.out.below Q1.out hbl).get 1 rfl; obtain ⟨m2, _⟩ := (HB.out.below Q1.out hbl).get 2 rfl; obtain ⟨m3, _⟩ := (HB.out.below Q1.out hbl).get 3 rfl; clear bb)
          | (go_at_call 19; (with_reducible refine (CK2.out _).mono ?_); rintro e W2 ⟨rfl, bb⟩; have Q2 := Lib.hid (Q1.out.trans (bb.mono Q1.out.size)); clear bb))
        all_goals
          go_ret
          exact ⟨rfl, HZ.out.trans (Q2.out.mono HZ.out.size)⟩
      case pos =>
        obtain ⟨hsel, hord, hbr⟩ := labChk_ok hck
        rw [hck] at CK CK2
        have hdl : ∀ d ∈ ds, d.length ≤ 4096 := fun d h => by have := HE.out d h; omega
        have CC := Lib.hid (fun W (h : Below w.heap.size w W) => choose_c _ _ _ sel ord br ds vars ws W (HD.out.below h) (HV.out.below h) (HW.out.below h) hdl hsel (by omega))
        have CD := Lib.hid (fun W (h : Below w.heap.size w W) => refChoose_c _ _ _ sel ord br ds vars ws W (HD.out.below h) (HV.out.below h) (HW.out.below h) hdl hsel (by omega))
        have HOR := Lib.hid hord
        have HBR := Lib.hid hbr
        clear hck hsel hord hbr hdl
        generalize bestI (chooseL ds vars sel ws vars.length) = bi at *
        go_wp2_with (first
          | (go_at_call 18; (with_reducible refine (CK.out _).mono ?_); rintro e W1 ⟨rfl, bb⟩; have Q1 := Lib.hid bb; obtain ⟨m0, _⟩ := (HB.out.below Q1.out hbl).get 0 rfl; obtain ⟨m1, _⟩ := (HB.out.below Q1.out hbl).get 1 rfl; obtain ⟨m2, _⟩ := (HB.out.below Q1.out hbl).get 2 rfl; obtain ⟨m3, _⟩ := (HB.out.below Q1.out hbl).get 3 rfl; clear bb)
          | (go_at_call 19; (with_reducible refine (CK2.out _).mono ?_); rintro e W2 ⟨rfl, bb⟩; have Q2 := Lib.hid (Q1.out.trans (bb.mono Q1.out.size)); clear bb))
        have B2 := Lib.hid (HZ.out.trans (Q2.out.mono HZ.out.size))
        have k0 := qb_cell ((HB.out.below Q2.out hbl).get 0 rfl).1
        have k1 := qb_cell ((HB.out.below Q2.out hbl).get 1 rfl).1
        have k2 := qb_cell ((HB.out.below Q2.out hbl).get 2 rfl).1
        have k3 := qb_cell ((HB.out.below Q2.out hbl).get 3 rfl).1
        have CC2 : Hid (∀ g : QG W2, _) := fun g => CC.out g.1 (B2.out.trans (g.2.mono B2.out.size))
        have CD2 : Hid (∀ g : QG W2, _) := fun g => CD.out g.1 (B2.out.trans (g.2.mono B2.out.size))
        clear m0 m1 m2 m3 l0 l1 l2 l3
        refine wp_region_below (by kernel_rfl) (by kernel_rfl) ?_
        repeat (go_big_quiet_step (first | (go_at_call 20; with_reducible exact qb_call _ (CC2.out _)) | (go_at_call 21; with_reducible exact qb_call _ (CD2.out _))))
        refine wpQuiet_nil ?_
        intro w1 hw1
        have Q3 := Lib.hid (Q2.out.trans (hw1.below.mono Q2.out.size))
        have B3 := Lib.hid (HZ.out.trans (Q3.out.mono HZ.out.size))
        have L3 := Lib.hid (HB.out.below Q3.out hbl)
        have hl3 := L3.out.lt (by simp)
        have hs3 := B3.out.size
        clear k0 k1 k2 k3 hw1 CC CD CC2 CD2 CK CK2 Q1 Q2 B2
        go_wp2
        go_loopw [9] (fun s wr => ∃ k : Nat, k ≤ ds.length ∧ s = .int .i64 k ∧ Hid (Below w.heap.size w wr) ∧ Hid (BoxL wr w.heap.size [.int .i64 sel, .int .i64 ord, .int .i64 br, .slice a2 ws.length c2])) (fun s _ => ds.length - (intOf s).toNat)
        case atStart => exact ⟨0, by omega, rfl, B3, L3⟩
        case round =>
          clear B3 L3 hl3 hs3 Q3 HB hbl HZ
          obtain ⟨k, hk, rfl, HB, HL⟩ := hrel
          have hbl := HL.out.lt (by simp)
          by_cases hlt : k < ds.length
          · obtain ⟨b, off, ao, cap, rfl, q1, q2, _, hc, hrg⟩ := HD.out.get k hlt
            have j1 : (k : Int) < ds.length := by omega
            have j0 : (0 : Int) ≤ (k : Int) := by omega
            have hdl := HE.out _ (List.getElem_mem hlt)
            have HR := Lib.hid (hrg.below HB.out)
            rw [← HB.out.cell (p := ⟨b, off + k, none⟩) q2] at hc
            have hqw : b < wr.heap.size := World.block_lt_of_cell? wr ⟨b, off + k, none⟩ hc
            clear hrg
            generalize ds[k] = d at *
            have CS1 : Hid (∀ W, Below wr.heap.size wr W → Calls Try.prog 22 #[.slice ao d.length cap, .agg #[.int .i64 sel, .int .i64 ord, .int .i64 br, .slice a2 ws.length c2]] W (RetS (splitL d ord br).1 (splitL d ord br).2 W)) := fun W h => split_c _ _ sel ord br d W (HR.out.below h) (by omega) HOR.out HBR.out _ _ _ rfl
            have CS2 : Hid (∀ W, Below wr.heap.size wr W → Calls Try.prog 23 #[.slice ao d.length cap, .agg #[.int .i64 sel, .int .i64 ord, .int .i64 br, .slice a2 ws.length c2]] W (RetS (splitL d ord br).1 (splitL d ord br).2 W)) := fun W h => refSplit_c _ _ sel ord br d W (HR.out.below h) (by omega) HOR.out HBR.out _ _ _ rfl
            have CSZ : Hid (∀ W, Below wr.heap.size wr W → Calls Try.prog 25 #[.slice ao d.length cap] W fun e w' => e = .returned (.int .i64 (sizeL (norm d))) ∧ Below wr.heap.size wr w' ∧ Below W.heap.size W w') := fun W h => (refSize_c _ d W (HR.out.below h) (by omega)).mono fun e w' ⟨h1, h2⟩ => ⟨h1, h.trans (h2.mono h.size), h2⟩
            have HSP : Hid (¬ sizeL (norm d) < 2 → _) := fun h => split_parts d ord br h HOR.out HBR.out
            have hla : (splitL d ord br).1.length ≤ 201 ∧ (splitL d ord br).2.length ≤ 201 := by
              unfold splitL
              split
              · simp
              · dsimp only
                unfold meetL minusL
                split <;> (dsimp only; exact ⟨canon_len _, canon_len _⟩)
            have HS0 : Hid (sizeL (norm d) < 2 → True) := fun _ => trivial
            have HNN : Hid (sizeL (norm (norm d)) = sizeL (norm d)) := by show _ = _; rw [norm_norm]
            have hnl : (norm d).length ≤ 201 := norm_len d
            generalize (splitL d ord br).1 = A at *
            generalize (splitL d ord br).2 = B at *
            obtain ⟨hla1, hla2⟩ := hla
            have HSW : Hid (∀ W', Below wr.heap.size wr W' → W'.cell? ⟨b, off + k, none⟩ = some (.slice ao d.length cap) ∧ W'.cell? ⟨w.heap.size, 0, none⟩ = some (.int .i64 sel) ∧ W'.cell? ⟨w.heap.size, 1, none⟩ = some (.int .i64 ord) ∧ W'.cell? ⟨w.heap.size, 2, none⟩ = some (.int .i64 br) ∧ W'.cell? ⟨w.heap.size, 3, none⟩ = some (.slice a2 ws.length c2)) := fun W' h =>
              ⟨(h.cell (p := ⟨b, off + k, none⟩) hqw).trans hc, ((HL.out.below h hbl).get 0 rfl).1, ((HL.out.below h hbl).get 1 rfl).1, ((HL.out.below h hbl).get 2 rfl).1, ((HL.out.below h hbl).get 3 rfl).1⟩
            obtain ⟨s0, s1, s2, s3, s4⟩ := HSW.out wr (Below.refl _ _)
            clear hc
            go_wp2
            go_region_held3 (fun W' => W'.cell? ⟨b, off + k, none⟩ = some (.slice ao d.length cap) ∧ W'.cell? ⟨w.heap.size, 0, none⟩ = some (.int .i64 sel) ∧ W'.cell? ⟨w.heap.size, 1, none⟩ = some (.int .i64 ord) ∧ W'.cell? ⟨w.heap.size, 2, none⟩ = some (.int .i64 br) ∧ W'.cell? ⟨w.heap.size, 3, none⟩ = some (.slice a2 ws.length c2)) ((first | exact HSW.out _ P4.out | (refine HSW.out _ ?_; go_grown)))
              (first | (go_at_call 22; refine (CS1.out _ ?_).mono ?_; (· go_grown); rintro e W4 ⟨a4, c4, a5, c5, rfl, r4, r5, bb⟩; have bw : Below wr.heap.size wr W4 := Below.trans (by go_grown) bb; have P4 := Lib.hid bw; have R4 := Lib.hid r4; have R5 := Lib.hid r5; clear bb bw r4 r5))
            clear s0 s1 s2 s3 s4
            obtain ⟨s0, s1, s2, s3, s4⟩ := HSW.out _ P4.out
            have hz4 := P4.out.size
            go_wp2
            go_region_held3 (fun W' => W'.cell? ⟨b, off + k, none⟩ = some (.slice ao d.length cap) ∧ W'.cell? ⟨w.heap.size, 0, none⟩ = some (.int .i64 sel) ∧ W'.cell? ⟨w.heap.size, 1, none⟩ = some (.int .i64 ord) ∧ W'.cell? ⟨w.heap.size, 2, none⟩ = some (.int .i64 br) ∧ W'.cell? ⟨w.heap.size, 3, none⟩ = some (.slice a2 ws.length c2)) ((first | exact HSW.out _ P6.out | exact HSW.out _ P4.out | exact HSW.out _ (below_drewN P4.out 1)))
              (first | (go_at_call 23; refine (CS2.out _ ?_).mono ?_; (· exact below_drewN P4.out 1); rintro e W6 ⟨a6, c6, a7, c7, rfl, r6, r7, bb⟩; have P6 := Lib.hid ((below_drewN P4.out 1).trans (bb.mono P4.out.size)); have R6 := Lib.hid r6; have R7 := Lib.hid r7; have T4 := Lib.hid (SlAt.below (SlAt.drew R4.out) bb); have T5 := Lib.hid (SlAt.below (SlAt.drew R5.out) bb); clear bb r6 r7))
            clear s0 s1 s2 s3 s4
            obtain ⟨s0, s1, s2, s3, s4⟩ := HSW.out _ P6.out
            have hz6 := P6.out.size
            have DX := Lib.hid (DsAt.alloc (dsAt_lit2 T4.out T5.out 46) (.cells #[.slice a6 A.length c6, .slice a7 B.length c7] 46))
            have DY := Lib.hid (dsAt_lit2 (SlAt.alloc R6.out (.cells #[.slice a4 A.length c4, .slice a5 B.length c5] 46)) (SlAt.alloc R7.out (.cells #[.slice a4 A.length c4, .slice a5 B.length c5] 46)) 46)
            have P8 := Lib.hid ((P6.out.alloc P6.out.size (.cells #[.slice a4 A.length c4, .slice a5 B.length c5] 46)).alloc (P6.out.alloc P6.out.size _).size (.cells #[.slice a6 A.length c6, .slice a7 B.length c7] 46))
            have U4 := Lib.hid (SlAt.alloc (SlAt.alloc T4.out (.cells #[.slice a4 A.length c4, .slice a5 B.length c5] 46)) (.cells #[.slice a6 A.length c6, .slice a7 B.length c7] 46))
            have U5 := Lib.hid (SlAt.alloc (SlAt.alloc T5.out (.cells #[.slice a4 A.length c4, .slice a5 B.length c5] 46)) (.cells #[.slice a6 A.length c6, .slice a7 B.length c7] 46))
            rw [show (W6.alloc (.cells #[.slice a4 A.length c4, .slice a5 B.length c5] 46)).heap.size = W6.heap.size + 1 by simp] at DY
            have CSM := Lib.hid (sameDs_c _ _ [A, B] [A, B] _ DX.out DY.out (by simp) (fun x hx => by simp at hx; rcases hx with rfl | rfl <;> omega))
            simp only [decide_true] at CSM
            go_wp2_with (go_at_call 24; (with_reducible refine CSM.out.mono ?_); rintro e W8 ⟨rfl, bb⟩; have P9 := Lib.hid (P8.out.trans (bb.mono P8.out.size)); have R8 := Lib.hid (SlAt.below U4.out bb); have R9 := Lib.hid (SlAt.below U5.out bb); clear bb)
            have hc8 := (HSW.out _ P9.out).1
            have B8 := Lib.hid (HB.out.trans (P9.out.mono HB.out.size))
            have L8 := Lib.hid (HL.out.below P9.out hbl)
            have hq8 := World.block_lt_of_cell? W8 _ hc8
            have RD8 := Lib.hid (HR.out.below P9.out)
            have hdl2 : d.length ≤ 4096 := by omega
            have CZ8 : Hid (∀ W, Below W8.heap.size W8 W → Calls Try.prog 25 #[.slice ao d.length cap] W fun e w' => e = .returned (.int .i64 (sizeL (norm d))) ∧ Below W8.heap.size W8 w' ∧ Below W.heap.size W w') := fun W h => (refSize_c _ d W (RD8.out.below h) hdl2).mono fun e w' ⟨h1, h2⟩ => ⟨h1, h.trans (h2.mono h.size), h2⟩
            clear s0 s1 s2 s3 s4 DX DY P4 P6 P8 T4 T5 R4 R5 R6 R7 U4 U5 CSM CS1 CS2 CSZ HSW hz4 hz6 HR
            by_cases h2 : sizeL (norm d) < 2
            · have hd2 : decide (2 ≤ sizeL (norm d)) = false := decide_eq_false (by omega)
              have k0 := qb_cell hc8
              have CG : Hid (∀ g : QG W8, Calls Try.prog 25 #[.slice ao d.length cap] g.1 fun e w' => e = .returned (.int .i64 (sizeL (norm d))) ∧ Below g.1.heap.size g.1 w') := fun g => (CZ8.out g.1 g.2).mono fun e w' ⟨h1, _, h3⟩ => ⟨h1, h3⟩
              generalize sizeL (norm d) = sz at *
              go_wp2
              refine wp_region_below (by kernel_rfl) (by kernel_rfl) ?_
              repeat (go_big_quiet_step ((go_at_call 25; with_reducible exact qb_call _ (CG.out _))))
              refine wpQuiet_nil ?_
              intro w1 hw1
              have Q9 := Lib.hid hw1.below
              clear k0 hw1
              go_wp2
              exact ⟨⟨k + 1, by omega, by go_num, Lib.hid (B8.out.trans (Q9.out.mono B8.out.size)), Lib.hid (L8.out.below Q9.out (by have := L8.out.lt (by simp); omega))⟩, by simp [intOf]; omega⟩
            · obtain ⟨e1, e2, e3, e4⟩ := HSP.out (by omega)
              have hd2 : decide (2 ≤ sizeL (norm d)) = true := decide_eq_true (by omega)
              have hA0 : ((A.length : Int) == 0) = false := beq_eq_false_iff_ne.2 (by have := List.length_pos_iff.2 e1; omega)
              have hB0 : ((B.length : Int) == 0) = false := beq_eq_false_iff_ne.2 (by have := List.length_pos_iff.2 e2; omega)
              have CME : Hid (∀ W, Below W8.heap.size W8 W → Calls Try.prog 26 #[.slice a4 A.length c4, .slice a5 B.length c5] W fun e w' => (∃ ax cx, e = .returned (.slice ax 0 cx)) ∧ Below W8.heap.size W8 w') := fun W h => (refMeet_c _ _ A B W (RgAt.below R8.out h) (RgAt.below R9.out h) (by omega) (by omega)).mono fun e w' ⟨ax, cx, h1, h2, h3⟩ => by
                rw [e3] at h1
                exact ⟨⟨ax, cx, h1⟩, h.trans (h3.mono h.size)⟩
              have CJO : Hid (∀ W, Below W8.heap.size W8 W → Calls Try.prog 27 #[.slice a4 A.length c4, .slice a5 B.length c5] W fun e w' => ∃ ax cx, e = .returned (.slice ax (norm d).length cx) ∧ RgAt w' (.slice ax (norm d).length cx) (norm d) ∧ Below W8.heap.size W8 w') := fun W h => (refJoin_c _ _ A B W (RgAt.below R8.out h) (RgAt.below R9.out h) (by omega) (by omega)).mono fun e w' ⟨ax, cx, h1, h2, h3⟩ => by
                rw [e4] at h1 h2
                exact ⟨ax, cx, h1, h2, h.trans (h3.mono h.size)⟩
              have CZN : Hid (∀ v W, Below W8.heap.size W8 W → RgAt W v (norm d) → Calls Try.prog 25 #[v] W fun e w' => e = .returned (.int .i64 (sizeL (norm d))) ∧ Below W8.heap.size W8 w') := fun v W h hr => (refSize_c _ (norm d) W hr (by omega)).mono fun e w' ⟨h1, h2⟩ => by
                rw [HNN.out] at h1
                exact ⟨h1, h.trans (h2.mono h.size)⟩
              have HSX : Hid (∀ W', Below W8.heap.size W8 W' → W'.cell? ⟨b, off + k, none⟩ = some (.slice ao d.length cap)) := fun W' h => (h.cell (p := ⟨b, off + k, none⟩) hq8).trans hc8
              clear HSP e1 e2 e3 e4 h2 HNN
              generalize sizeL (norm d) = sz at *
              generalize norm d = nd at *
              go_wp2
              go_region_held3 (fun W' => W'.cell? ⟨b, off + k, none⟩ = some (.slice ao d.length cap))
                (first | exact HSX.out _ SS.out | exact HSX.out _ KK.out | exact HSX.out _ JJ.out | exact HSX.out _ MM.out | (refine HSX.out _ ?_; go_grown))
                (first
                  | (go_at_call 25; (with_reducible refine (CZ8.out _ ?_).mono ?_); (· (first | exact SS.out | exact KK.out | exact JJ.out | exact MM.out | go_grown)); rintro e W9 ⟨rfl, bw, bb⟩; (try have JR := Lib.hid (JR.out.below bb)); have SS := Lib.hid bw; clear bw bb)
                  | (go_at_call 26; (with_reducible refine (CME.out _ ?_).mono ?_); (· (first | exact SS.out | exact KK.out | exact JJ.out | exact MM.out | go_grown)); rintro e W9 ⟨⟨ax, cx, rfl⟩, bw⟩; have MM := Lib.hid bw; clear bw)
                  | (go_at_call 27; (with_reducible refine (CJO.out _ ?_).mono ?_); (· (first | exact SS.out | exact KK.out | exact JJ.out | exact MM.out | go_grown)); rintro e W9 ⟨ay, cy, rfl, jr, bw⟩; have JJ := Lib.hid bw; have JR := Lib.hid jr; clear bw jr)
                  | (go_at_call 25; (with_reducible refine (CZN.out _ _ ?_ JR.out).mono ?_); (· (first | exact SS.out | exact KK.out | exact JJ.out | exact MM.out | go_grown)); rintro e W9 ⟨rfl, bw⟩; have KK := Lib.hid bw; clear bw))
              all_goals
                go_wp2
                first
                  | exact ⟨⟨k + 1, by omega, by go_num, Lib.hid (B8.out.trans (SS.out.mono B8.out.size)), Lib.hid (L8.out.below SS.out (by have := L8.out.lt (by simp); omega))⟩, by simp [intOf]; omega⟩
                  | exact ⟨⟨k + 1, by omega, by go_num, Lib.hid (B8.out.trans (KK.out.mono B8.out.size)), Lib.hid (L8.out.below KK.out (by have := L8.out.lt (by simp); omega))⟩, by simp [intOf]; omega⟩
          · go_wp2
            go_ret
            exact ⟨rfl, HB.out⟩
end Go.Proofs.Ytkhiogcdamjocaa
