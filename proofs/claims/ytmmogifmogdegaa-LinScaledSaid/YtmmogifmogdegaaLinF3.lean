/-
  The reference's without of layer 15, walked.
-/
import Derived.Test.YtmmogifmogdegaaLinG
import Derived.Test.YtmmogifmogdegaaChk
import Derived.Test.YtmmogifmogdegaaBoxL
import Derived.Test.YtmmogifmogdegaaStep
import Derived.Handy
import Derived.Deep.RegionHeld3
import Derived.Deep.RegionLaw
import Derived.Deep.DeepCutAuto
namespace Go.Proofs.Ytmmogifmogdegaa
open Go.RowKit

theorem Try.infoInt : (Try.prog.info? 3).map (fun i => (i.zero, i.size, i.bytes)) = some (some (.int .i64 0), 1, 8) := by kernel_rfl

set_option maxRecDepth 100000 in
set_option maxHeartbeats 1600000 in
theorem without_c (va vb : Value) (rel c i : Int) (coef vars : List Int) (w : World) (h0 : IsAt w va coef) (h1 : IsAt w vb vars) (hl : coef.length = vars.length) (hl16 : coef.length ≤ 16) :
    Calls Try.prog 30 #[.agg #[va, vb, .int .i64 rel, .int .i64 c], .int .i64 i] w fun e w' => ∃ v0 v1, e = .returned (.agg #[v0, v1, .int .i64 rel, .int .i64 c]) ∧
      IsAt w' v0 (butL coef i coef.length) ∧ IsAt w' v1 (butL vars i vars.length) ∧ Below w.heap.size w w' := by
  obtain ⟨i0, hi, hz0, hz1, hz2⟩ := info_parts Try.infoInt
  obtain ⟨a0, c0, rfl, _⟩ := SlAt.shape h0
  obtain ⟨a1, c1, rfl, _⟩ := SlAt.shape h1
  have H0 := Lib.hid h0
  have H1 := Lib.hid h1
  have HL := Lib.hid hl
  clear h0 h1 hl
  go_enter Try.func30, Try.ntmps30
  go_wp2
  have HZ : Hid (Below w.heap.size w ((((w.alloc (.cells #[.slice a0 coef.length c0, .slice a1 vars.length c1, .int .i64 rel, .int .i64 c] 24)).alloc (.cells #[.slice none 0 0, .slice none 0 0, .int .i64 0, .int .i64 0] 24)).alloc (.cells #[.slice none 0 0, .slice none 0 0, .int .i64 rel, .int .i64 c] 24)))) := by
    show Below _ _ _
    go_grown
  go_loopw [6] (fun s wr => ∃ k : Nat, ∃ v0 v1 : Value, k ≤ vars.length ∧ s = .int .i64 k ∧ Hid (BoxL wr w.heap.size [.slice a0 coef.length c0, .slice a1 vars.length c1, .int .i64 rel, .int .i64 c]) ∧ Hid (BoxL wr (w.heap.size + 1) [.slice none 0 0, .slice none 0 0, .int .i64 0, .int .i64 0]) ∧ Hid (BoxL wr (w.heap.size + 1 + 1) [v0, v1, .int .i64 rel, .int .i64 c]) ∧
      wr.ownsRow (w.heap.size + 1 + 1 + 1) 3 1 v0 (butL coef i k).length ((butL coef i k).map (Value.int .i64)) ∧ wr.ownsRow (w.heap.size + 1 + 1 + 1) 3 1 v1 (butL vars i k).length ((butL vars i k).map (Value.int .i64)) ∧ Hid (Apart v0 v1) ∧ Hid (Below w.heap.size w wr) ∧ w.heap.size + 1 + 1 + 1 ≤ wr.heap.size) (fun s _ => vars.length - (intOf s).toNat)
  case atStart =>
    refine ⟨0, .slice none 0 0, .slice none 0 0, by omega, rfl, ?_, ?_, ?_, ?_, ?_, fun b h => by simp [Value.ownBlock] at h, HZ, by simp⟩
    · refine Lib.hid ?_
      have h := BoxL.mk' w #[.slice a0 coef.length c0, .slice a1 vars.length c1, .int .i64 rel, .int .i64 c] 24
      refine BoxL.below h (B := w.heap.size + 1) ?_ (by omega)
      go_grown
    · refine Lib.hid ?_
      have h := BoxL.mk' (w.alloc (.cells #[.slice a0 coef.length c0, .slice a1 vars.length c1, .int .i64 rel, .int .i64 c] 24)) #[.slice none 0 0, .slice none 0 0, .int .i64 0, .int .i64 0] 24
      rw [show (w.alloc (.cells #[.slice a0 coef.length c0, .slice a1 vars.length c1, .int .i64 rel, .int .i64 c] 24)).heap.size = w.heap.size + 1 by simp] at h
      refine BoxL.below h (B := w.heap.size + 1 + 1) ?_ (by omega)
      go_grown
    · refine Lib.hid ?_
      have h := BoxL.mk' ((w.alloc (.cells #[.slice a0 coef.length c0, .slice a1 vars.length c1, .int .i64 rel, .int .i64 c] 24)).alloc (.cells #[.slice none 0 0, .slice none 0 0, .int .i64 0, .int .i64 0] 24)) #[.slice none 0 0, .slice none 0 0, .int .i64 rel, .int .i64 c] 24
      rw [show ((w.alloc (.cells #[.slice a0 coef.length c0, .slice a1 vars.length c1, .int .i64 rel, .int .i64 c] 24)).alloc (.cells #[.slice none 0 0, .slice none 0 0, .int .i64 0, .int .i64 0] 24)).heap.size = w.heap.size + 1 + 1 by simp] at h
      exact h
    · rw [butL_zero]; exact World.ownsRow_nil _ _ _ _
    · rw [butL_zero]; exact World.ownsRow_nil _ _ _ _
  case round =>
    obtain ⟨k, v0, v1, hk, rfl, HBL, HBR, HBM, own0, own1, HAP, HBW, hsz⟩ := hrel
    have hbl := butL_len coef i k
    have hbv := butL_len vars i k
    have hlv : vars.length ≤ 16 := by have := HL.out; omega
    by_cases hlt : k < vars.length
    · obtain ⟨b0, o0, q0, he0, hq0, hb0, hx0⟩ := IsAt.at H0.out (by have := HL.out; omega)
      obtain ⟨b1, o1, q1, he1, hq1, hb1, hx1⟩ := IsAt.at H1.out (by omega)
      simp only [Value.slice.injEq, true_and] at he0 he1
      obtain ⟨rfl, rfl⟩ := he0
      obtain ⟨rfl, rfl⟩ := he1
      have x0 := hx0 k (by have := HL.out; omega)
      have x1 := hx1 k hlt
      have S0 := Lib.hid (butL_step coef i k (by have := HL.out; omega))
      have S1 := Lib.hid (butL_step vars i k hlt)
      have j1 : (k : Int) < vars.length := by omega
      have j2 : (k : Int) < coef.length := by have := HL.out; omega
      have j3 : (k : Int) ≤ 16 := by omega
      clear hx0 hx1
      generalize coef[k]'(by have := HL.out; omega) = y0 at *
      generalize vars[k] = y1 at *
      rw [← HBW.out.cell (p := ⟨b0, o0 + k, none⟩) hb0] at x0
      rw [← HBW.out.cell (p := ⟨b1, o1 + k, none⟩) hb1] at x1
      obtain ⟨l0, _⟩ := HBL.out.get 0 rfl
      obtain ⟨l1, _⟩ := HBL.out.get 1 rfl
      obtain ⟨m0, mf0⟩ := HBM.out.get 0 rfl
      obtain ⟨m1, mf1⟩ := HBM.out.get 1 rfl
      by_cases hi' : (k : Int) = i
      · have hne : ((k : Int) != i) = false := by simp [hi']
        rw [if_pos hi', List.append_nil] at S0 S1
        clear hi'
        go_wp2
        exact ⟨⟨k + 1, v0, v1, by omega, by go_num, HBL, HBR, HBM, by rw [S0.out]; exact own0, by rw [S1.out]; exact own1, HAP, HBW, hsz⟩, by simp [intOf]; omega⟩
      · have hne : ((k : Int) != i) = true := by simpa using hi'
        rw [if_neg hi'] at S0 S1
        clear hi'
        generalize butL coef i k = O0 at *
        generalize butL vars i k = O1 at *
        obtain ⟨oa, oc, rfl, _⟩ := (SlAt.of_own own0).shape
        obtain ⟨ob, od, rfl, _⟩ := (SlAt.of_own own1).shape
        have n1 : ¬ b0 = w.heap.size + 1 + 1 := by omega
        have n2 : ¬ b1 = w.heap.size + 1 + 1 := by omega
        have HS : Hid (∀ W', Below (w.heap.size + 1 + 1 + 1) wr W' → W'.cell? ⟨w.heap.size, 0, none⟩ = some (.slice (some ⟨b0, o0, none⟩) coef.length c0) ∧ W'.cell? ⟨b0, o0 + k, none⟩ = some (.int .i64 y0) ∧ W'.frozen? ⟨w.heap.size + 1 + 1, 0, none⟩ = false) := fun W' h =>
          ⟨((HBL.out.below h (by omega)).get 0 rfl).1, (h.cell (p := ⟨b0, o0 + k, none⟩) (by simp; omega)).trans x0, ((HBM.out.below h (by omega)).get 0 rfl).2⟩
        have hq : ¬ w.heap.size + 1 + 1 = wr.heap.size := by omega
        have HA : Hid (∀ o, Below (w.heap.size + 1 + 1 + 1) wr (wr.alloc o).drew) := fun o => below_drewN ((Below.refl (w.heap.size + 1 + 1 + 1) wr).alloc hsz _) 1
        have ma : ∀ o, (wr.alloc o).cell? ⟨w.heap.size + 1 + 1, 0, none⟩ = some (.slice oa O0.length oc) := fun o => Lib.cell?_alloc_some o m0
        go_upto_region 6 with fail
        go_cut [30] (fun p wx => ∃ v0' : Value, Hid (BoxL wx w.heap.size [.slice (some ⟨b0, o0, none⟩) coef.length c0, .slice (some ⟨b1, o1, none⟩) vars.length c1, .int .i64 rel, .int .i64 c]) ∧ Hid (BoxL wx (w.heap.size + 1) [.slice none 0 0, .slice none 0 0, .int .i64 0, .int .i64 0]) ∧ Hid (BoxL wx (w.heap.size + 1 + 1) [v0', .slice ob O1.length od, .int .i64 rel, .int .i64 c]) ∧
          wx.ownsRow (w.heap.size + 1 + 1 + 1) 3 1 v0' (O0.length + 1) (O0.map (Value.int .i64) ++ [.int .i64 y0]) ∧ wx.ownsRow (w.heap.size + 1 + 1 + 1) 3 1 (.slice ob O1.length od) O1.length (O1.map (Value.int .i64)) ∧ Hid (Apart v0' (.slice ob O1.length od)) ∧ Hid (Below w.heap.size w wx) ∧ w.heap.size + 1 + 1 + 1 ≤ wx.heap.size ∧ wx.cell? ⟨b1, o1 + k, none⟩ = some (.int .i64 y1))
        case first =>
          go_region_law
            ((refine step_append1 rfl (.tmp 23) (.tmp 29) 22 rfl (w.heap.size + 1 + 1 + 1) 3 i0 (.int .i64 0) 8 Try.underlying22 hi hz0 hz1 hz2 rfl _ _ _ rfl (World.ownsRow.drew (own0.alloc _)) (.int .i64 y0) _ rfl ?_ rfl ?_ ?_ ?_; (· simp); (· omega); (· simp; omega); intro g1 cap1 w1 ow bw kw aw; have mm := ((HBM.out.below ((HA.out _).trans bw) (by omega)).get 0 rfl).1; have mf := ((HBM.out.below ((HA.out _).trans bw) (by omega)).get 0 rfl).2))
          all_goals
            have HB1 := Lib.hid ((HA.out _).trans bw)
            have HO1 := Lib.hid ow
            have BL1 := Lib.hid (HBL.out.below HB1.out (by omega))
            have BR1 := Lib.hid (HBR.out.below HB1.out (by omega))
            have BM1 := Lib.hid (HBM.out.below HB1.out (by omega))
            have OW1 := Lib.hid (own_kept (World.ownsRow.drew (own1.alloc _)) kw (HAP.out.symm))
            have AP1 := Lib.hid (apart_new (m := O0.length + 1) (c := cap1) (World.ownsRow.drew (own1.alloc _)) HAP.out aw)
            have HW1 := Lib.hid ((below_drewN (HBW.out.alloc (by omega) _) 1).trans (bw.mono (by omega)))
            have hs1 := HB1.out.size
            go_wp2_with fail
            go_meet
            exact ⟨_, Lib.hid (BL1.out.far (a := ⟨w.heap.size + 1 + 1, 0, none⟩) (by dsimp only; omega) _), Lib.hid (BR1.out.far (a := ⟨w.heap.size + 1 + 1, 0, none⟩) (by dsimp only; omega) _), Lib.hid (BM1.out.set 0 (by simp) (.slice (some ⟨g1, 0, none⟩) (O0.length + 1) cap1)), own_setCell HO1.out (a := ⟨w.heap.size + 1 + 1, 0, none⟩) (Nat.lt_succ_self _) _, own_setCell OW1.out (a := ⟨w.heap.size + 1 + 1, 0, none⟩) (Nat.lt_succ_self _) _, AP1, Lib.hid (HW1.out.setCell (p := ⟨w.heap.size + 1 + 1, 0, none⟩) (by dsimp only; omega) _), by simp [World.setCell]; omega,
              cell_far ((HB1.out.cell (p := ⟨b1, o1 + k, none⟩) (by dsimp only; omega)).trans x1) (a := ⟨w.heap.size + 1 + 1, 0, none⟩) (by dsimp only; omega) _⟩
        case rest =>
          obtain ⟨v0', HBL2, HBR2, HBM2, ow0, ow1, HAP2, HBW2, hsz2, x1'⟩ := hcut
          clear HBL HBR HBM own0 own1 HAP HBW x0 x1 l0 l1 m0 m1 mf0 mf1 ma HS HA hq hsz
          obtain ⟨oe, of, rfl, _⟩ := (SlAt.of_own ow0).shape
          obtain ⟨l1, _⟩ := HBL2.out.get 1 rfl
          obtain ⟨m1, mf1⟩ := HBM2.out.get 1 rfl
          have HA : Hid (∀ o, Below (w.heap.size + 1 + 1 + 1) wc (wc.alloc o).drew) := fun o => below_drewN ((Below.refl (w.heap.size + 1 + 1 + 1) wc).alloc hsz2 _) 1
          have ma : ∀ o, (wc.alloc o).cell? ⟨w.heap.size + 1 + 1, 1, none⟩ = some (.slice ob O1.length od) := fun o => Lib.cell?_alloc_some o m1
          go_wp2
          go_region_law
              ((refine step_append1 rfl (.tmp 33) (.tmp 39) 22 rfl (w.heap.size + 1 + 1 + 1) 3 i0 (.int .i64 0) 8 Try.underlying22 hi hz0 hz1 hz2 rfl _ _ _ rfl (World.ownsRow.drew (ow1.alloc _)) (.int .i64 y1) _ rfl ?_ rfl ?_ ?_ ?_; (· simp); (· omega); (· simp; omega); intro g1 cap1 w1 ow bw kw aw; have mm := ((HBM2.out.below ((HA.out _).trans bw) (by omega)).get 1 rfl).1; have mf := ((HBM2.out.below ((HA.out _).trans bw) (by omega)).get 1 rfl).2))
          all_goals
            have HB1 := Lib.hid ((HA.out _).trans bw)
            have HO1 := Lib.hid ow
            have BL1 := Lib.hid (HBL2.out.below HB1.out (by omega))
            have BR1 := Lib.hid (HBR2.out.below HB1.out (by omega))
            have BM1 := Lib.hid (HBM2.out.below HB1.out (by omega))
            have OW1 := Lib.hid (own_kept (World.ownsRow.drew (ow0.alloc _)) kw HAP2.out)
            have AP1 := Lib.hid (apart_new (m := O1.length + 1) (c := cap1) (World.ownsRow.drew (ow0.alloc _)) HAP2.out.symm aw)
            have HW1 := Lib.hid ((below_drewN (HBW2.out.alloc (by omega) _) 1).trans (bw.mono (by omega)))
            have hs1 := HB1.out.size
            go_wp2
            refine ⟨⟨k + 1, _, _, by omega, by go_num, Lib.hid (BL1.out.far (a := ⟨w.heap.size + 1 + 1, 1, none⟩) (by dsimp only; omega) _), Lib.hid (BR1.out.far (a := ⟨w.heap.size + 1 + 1, 1, none⟩) (by dsimp only; omega) _), Lib.hid (BM1.out.set 1 (by simp) (.slice (some ⟨g1, 0, none⟩) (O1.length + 1) cap1)), ?_, ?_, Lib.hid AP1.out.symm, Lib.hid (HW1.out.setCell (p := ⟨w.heap.size + 1 + 1, 1, none⟩) (by dsimp only; omega) _), by simp [World.setCell]; omega⟩, by simp [intOf]; omega⟩
            · rw [S0.out, List.length_append, List.map_append]; exact own_setCell OW1.out (a := ⟨w.heap.size + 1 + 1, 1, none⟩) (Nat.lt_succ_self _) _
            · rw [S1.out, List.length_append, List.map_append]; exact own_setCell HO1.out (a := ⟨w.heap.size + 1 + 1, 1, none⟩) (Nat.lt_succ_self _) _
    · obtain rfl : k = vars.length := by omega
      obtain ⟨l0, _⟩ := HBL.out.get 0 rfl
      obtain ⟨l1, _⟩ := HBL.out.get 1 rfl
      obtain ⟨m0, mf0⟩ := HBM.out.get 0 rfl
      obtain ⟨m1, mf1⟩ := HBM.out.get 1 rfl
      obtain ⟨m2, mf2⟩ := HBM.out.get 2 rfl
      obtain ⟨m3, mf3⟩ := HBM.out.get 3 rfl
      obtain ⟨r0, rf0⟩ := HBR.out.get 0 rfl
      obtain ⟨r1, rf1⟩ := HBR.out.get 1 rfl
      obtain ⟨r2, rf2⟩ := HBR.out.get 2 rfl
      obtain ⟨r3, rf3⟩ := HBR.out.get 3 rfl
      obtain ⟨oa, oc, rfl, _⟩ := (SlAt.of_own own0).shape
      obtain ⟨ob, od, rfl, _⟩ := (SlAt.of_own own1).shape
      have R4 := Lib.hid ((((HBR.out.set 0 (by simp) (.slice oa (butL coef i vars.length).length oc)).set 1 (by simp) (.slice ob (butL vars i vars.length).length od)).set 2 (by simp) (.int .i64 rel)).set 3 (by simp) (.int .i64 c))
      obtain ⟨s0, _⟩ := R4.out.get 0 rfl
      obtain ⟨s1, _⟩ := R4.out.get 1 rfl
      obtain ⟨s2, _⟩ := R4.out.get 2 rfl
      obtain ⟨s3, _⟩ := R4.out.get 3 rfl
      go_wp2
      refine bodyPost_ret (v := .agg #[.slice oa (butL coef i vars.length).length oc, .slice ob (butL vars i vars.length).length od, .int .i64 rel, .int .i64 c]) ?_ rfl ⟨_, _, rfl, ?_, ?_, ?_⟩
      · simp [results, Try.results30, go_sem, s0, s1, s2, s3]
      · rw [HL.out]
        exact SlAt.of_own (own_setCell (own_setCell (own_setCell (own_setCell own0 (a := ⟨w.heap.size + 1, 0, none⟩) (by simp) _) (a := ⟨w.heap.size + 1, 1, none⟩) (by simp) _) (a := ⟨w.heap.size + 1, 2, none⟩) (by simp) _) (a := ⟨w.heap.size + 1, 3, none⟩) (by simp) _)
      · exact SlAt.of_own (own_setCell (own_setCell (own_setCell (own_setCell own1 (a := ⟨w.heap.size + 1, 0, none⟩) (by simp) _) (a := ⟨w.heap.size + 1, 1, none⟩) (by simp) _) (a := ⟨w.heap.size + 1, 2, none⟩) (by simp) _) (a := ⟨w.heap.size + 1, 3, none⟩) (by simp) _)
      · exact (((HBW.out.setCell (p := ⟨w.heap.size + 1, 0, none⟩) (by simp) _).setCell (p := ⟨w.heap.size + 1, 1, none⟩) (by simp) _).setCell (p := ⟨w.heap.size + 1, 2, none⟩) (by simp) _).setCell (p := ⟨w.heap.size + 1, 3, none⟩) (by simp) _
end Go.Proofs.Ytmmogifmogdegaa
