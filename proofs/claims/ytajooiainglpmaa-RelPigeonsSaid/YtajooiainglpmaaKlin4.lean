/-
  lin.narrowed, lin.Says, walked.
  lin.Says, walked.
-/
import Derived.Test.YtajooiainglpmaaKlin3
namespace Go.Proofs.Ytajooiainglpmaa
open Go.RowKit

theorem tdiv_bnd (a b : Int) (_hb : b ≠ 0) (h : -2199023255552 ≤ a ∧ a ≤ 2199023255552) : -2199023255552 ≤ a.tdiv b ∧ a.tdiv b ≤ 2199023255552 := by
  have h1 : (a.tdiv b).natAbs ≤ a.natAbs := by rw [Int.natAbs_tdiv]; exact Nat.div_le_self _ _
  omega

theorem rgAt_lit2g (w : World) (r : Rg) (T : TypeId) {g : Nat} (hg : w.heap.size = g) : RgAt (w.alloc (.cells #[.int .i64 r.1, .int .i64 r.2] T)) (.slice (some ⟨g, 0, none⟩) 1 1) [r] := by
  subst hg; exact rgAt_lit2 w r T
set_option maxRecDepth 100000 in
set_option maxHeartbeats 1600000 in
theorem narrowed_c (v0 v1 vd : Value) (rel C : Int) (coef : List Int) (k : Nat) (cf : Int) (d : List Rg) (lo hi : Int) (w : World) (h0 : IsAt w v0 coef) (hd : RgAt w vd d) (hl : d.length ≤ 4096)
    (hk : k < coef.length) (hcf : coef[k] = cf) (hc : -100000 ≤ cf ∧ cf ≤ 100000) (hc0 : cf ≠ 0) (hr : rel = 1 ∨ rel = 2 ∨ rel = 3) (hC : -1099511627778 ≤ C ∧ C ≤ 1099511627778) (hlo : -400000000 ≤ lo ∧ lo ≤ 400000000) (hhi : -400000000 ≤ hi ∧ hi ≤ 400000000) :
    Calls Try.prog 96 #[.agg #[v0, v1, .int .i64 rel, .int .i64 C], .int .i64 k, vd, .agg #[.int .i64 lo, .int .i64 hi]] w (RetR (narrowL rel C cf d lo hi) w) := by
  obtain ⟨a0, c0, rfl, _⟩ := IsAt.shape h0
  obtain ⟨ao, cap, rfl, _⟩ := hd.shape
  obtain ⟨b, off, rfl, hcap, hbs, hcell⟩ := h0.get k hk
  rw [hcf] at hcell
  have j1 : (k : Int) < coef.length := by omega
  obtain ⟨hc1, hc2⟩ := hc
  obtain ⟨hC1, hC2⟩ := hC
  obtain ⟨hlo1, hlo2⟩ := hlo
  obtain ⟨hhi1, hhi2⟩ := hhi
  have CN : Hid (∀ W, Below w.heap.size w W → Calls Try.prog 19 #[.slice ao d.length cap] W (RetR (norm d) W)) := fun W h => norm_c _ d W (hd.below h) hl
  have CX : Hid (∀ (r : Rg) W v2, Below w.heap.size w W → RgAt W v2 [r] → Calls Try.prog 99 #[.slice ao d.length cap, v2] W (RetR (minusL d [r]) W)) := fun r W v2 h hr => minus_c _ _ d [r] W (hd.below h) hr hl (by simp)
  have CA : Hid (∀ W, Below w.heap.size w W → Calls Try.prog 100 #[.slice ao d.length cap, .int .i64 cf, .int .i64 (C - lo)] W (RetR (atMostL d cf (C - lo)) W)) := fun W h => atMost_c _ d cf _ W (hd.below h) hl ⟨hc1, hc2⟩ hc0
  have CB : Hid (∀ W v, RgAt W v (atMostL d cf (C - lo)) → Calls Try.prog 100 #[v, .int .i64 (-cf), .int .i64 (hi - C)] W (RetR (atMostL (atMostL d cf (C - lo)) (-cf) (hi - C)) W)) := fun W v h => atMost_c v _ (-cf) _ W h (Nat.le_trans (canon_len _) (by decide)) ⟨by omega, by omega⟩ (by omega)
  have hbx : b ≠ w.heap.size := by omega
  have Z0 : Hid (∀ T1 T2, Below w.heap.size w ((w.alloc (.cells #[.slice (some ⟨b, off, none⟩) coef.length c0, v1, .int .i64 rel, .int .i64 C] T1)).alloc (.cells #[.int .i64 lo, .int .i64 hi] T2))) := fun T1 T2 => by show Below _ _ _; go_grown
  rcases hr with rfl | rfl | rfl
  · rw [← narrow_eq]
    clear hd h0 CN CX
    generalize atMostL (atMostL d cf (C - lo)) (-cf) (hi - C) = res2 at *
    generalize atMostL d cf (C - lo) = res at *
    go_enter Try.func96, Try.ntmps96
    go_wp2_with (first
      | (go_at_call 100; (with_reducible refine (CA.out _ (Z0.out 32 145)).mono ?_); rintro e W1 ⟨a1, c1, rfl, r1, bb⟩; have B1 := Lib.hid ((Z0.out 32 145).trans (bb.mono (Z0.out 32 145).size)); have y0 := bb.cell (p := ⟨w.heap.size, 2, none⟩) (by simp; omega); have y1 := bb.cell (p := ⟨w.heap.size, 3, none⟩) (by simp; omega); have y2 := bb.cell (p := ⟨w.heap.size + 1, 1, none⟩) (by simp); simp at y0 y1 y2; have R1 := Lib.hid r1; clear bb r1)
      | (go_at_call 100; (with_reducible refine (CB.out _ _ R1.out).mono ?_); rintro e W2 ⟨a2, c2, rfl, r2, bb⟩))
    go_ret
    exact ⟨_, _, rfl, r2, B1.out.trans (bb.mono B1.out.size)⟩
  · by_cases hlh : lo = hi
    · subst hlh
      have e1 := wrap_small (x := C - lo) (by omega)
      by_cases hm : (C - lo).tmod cf = 0
      · have hq := Int.mul_tdiv_add_tmod (C - lo) cf
        have hqb := tdiv_bnd (C - lo) cf hc0 (by omega)
        rw [hm, Int.add_zero] at hq
        rw [← narrow_ne_one C cf d lo ((C - lo).tdiv cf) hc0 hq]
        generalize hqq : (C - lo).tdiv cf = q at *
        have e2 := wrap_small (x := q) (by omega)
        clear hd h0 CN CA CB
        go_enter Try.func96, Try.ntmps96
        go_wp2
        go_region_held3 (fun _ => True) (trivial) (first
          | (go_at_call 99; refine (CX.out (q, q) _ _ ?_ ?_).mono ?_; (· exact ((Z0.out 32 145).alloc (Z0.out 32 145).size _).drew); (· exact SlAt.drew (rgAt_lit2g _ (q, q) _ (by simp))); rintro e W1 ⟨a1, c1, rfl, r1, bb⟩; have B1 := Lib.hid (((Z0.out 32 145).alloc (Z0.out 32 145).size _).drew.trans (bb.mono ((Z0.out 32 145).alloc (Z0.out 32 145).size _).drew.size)); clear bb))
        all_goals go_wp2
        all_goals
          go_ret
          exact ⟨_, _, rfl, r1, B1.out⟩
      · have hne : ∀ x, cf * x ≠ C - lo := fun x hx => hm (by rw [← hx]; exact Int.mul_tmod_right _ _)
        rw [← narrow_ne_all C cf d lo lo (.inr hne)]
        clear hd h0 CX CA CB hne
        go_enter Try.func96, Try.ntmps96
        go_wp2_with (go_at_call 19; (with_reducible refine (CN.out _ (Z0.out 32 145)).mono ?_); rintro e W1 ⟨a1, c1, rfl, r1, bb⟩)
        go_ret
        exact ⟨_, _, rfl, r1, (Z0.out 32 145).trans (bb.mono (Z0.out 32 145).size)⟩
    · rw [← narrow_ne_all C cf d lo hi (.inl hlh)]
      clear hd h0 CX CA CB
      go_enter Try.func96, Try.ntmps96
      go_wp2_with (go_at_call 19; (with_reducible refine (CN.out _ (Z0.out 32 145)).mono ?_); rintro e W1 ⟨a1, c1, rfl, r1, bb⟩)
      go_ret
      exact ⟨_, _, rfl, r1, (Z0.out 32 145).trans (bb.mono (Z0.out 32 145).size)⟩
  · rw [← narrow_le C cf d lo hi]
    clear hd h0 CN CX CB
    generalize atMostL d cf (C - lo) = res at *
    go_enter Try.func96, Try.ntmps96
    go_wp2_with (first
      | (go_at_call 100; (with_reducible refine (CA.out _ (Z0.out 32 145)).mono ?_); rintro e W1 ⟨a1, c1, rfl, r1, bb⟩; have B1 := Lib.hid ((Z0.out 32 145).trans (bb.mono (Z0.out 32 145).size)); have y0 := bb.cell (p := ⟨w.heap.size, 2, none⟩) (by simp; omega); simp at y0; have R1 := Lib.hid r1; clear bb r1))
    go_ret
    exact ⟨_, _, rfl, R1.out, B1.out⟩
end Go.Proofs.Ytajooiainglpmaa
namespace Go.Proofs.Ytajooiainglpmaa
open Go.RowKit

def sayV (rel C lo hi : Int) : Int := if yesL rel C lo hi = true then 1 else if noL rel C lo hi = true then -1 else 0
theorem saysL_eq (rel C : Int) (ds : Ds) (ps : Ps) : saysL rel C ds ps = if allOk ds ps = true then sayV rel C (loS ds ps) (hiS ds ps) else 0 := rfl
theorem beqf {a b : Int} (h : ¬ a = b) : (a == b) = false := beq_eq_false_iff_ne.2 h

set_option maxRecDepth 100000 in
set_option maxHeartbeats 1600000 in
theorem says_c (va vb vds : Value) (rel C : Int) (coef vars : List Int) (ds : Ds) (w : World) (h0 : IsAt w va coef) (h1 : IsAt w vb vars) (hd : DsAt w vds ds) (hg : GoodL coef vars ds) (hr : rel = 1 ∨ rel = 2 ∨ rel = 3) :
    Calls Try.prog 95 #[.agg #[va, vb, .int .i64 rel, .int .i64 C], vds] w fun e w' => e = .returned (.int .i64 (saysL rel C ds (coef.zip vars))) ∧ Below w.heap.size w w' := by
  have hZ : Below w.heap.size w (w.alloc (.cells #[va, vb, .int .i64 rel, .int .i64 C] 32)) := (Below.refl _ _).alloc (Nat.le_refl _) _
  obtain ⟨a0, c0, rfl, _⟩ := IsAt.shape h0
  obtain ⟨a1, c1, rfl, _⟩ := IsAt.shape h1
  obtain ⟨a2, c2, rfl, _⟩ := hd.shape
  rw [saysL_eq]
  have CP := Lib.hid (sums_c _ _ _ rel C coef vars ds _ (h0.below hZ) (h1.below hZ) (hd.below hZ) hg)
  have HZ := Lib.hid hZ
  unfold sLo sHi at CP
  have HLE : allOk ds (coef.zip vars) = true → loS ds (coef.zip vars) ≤ hiS ds (coef.zip vars) := fun h => (sums_le_but ds _ h).1
  clear h0 h1 hd hg hZ
  cases hA : allOk ds (coef.zip vars) with
  | false =>
    rw [hA, if_neg (by simp), if_neg (by simp)] at CP
    rw [if_neg (by simp)]
    clear hA HLE
    go_enter Try.func95, Try.ntmps95
    go_wp2_with (go_at_call 98; (with_reducible refine CP.out.mono ?_); rintro e W ⟨rfl, bb⟩; have B1 := Lib.hid (HZ.out.trans (bb.mono HZ.out.size)); clear bb)
    go_ret
    exact ⟨rfl, B1.out⟩
  | true =>
    rw [hA, if_pos rfl, if_pos rfl] at CP
    rw [if_pos rfl]
    have hle := HLE hA
    clear hA HLE
    generalize loS ds (coef.zip vars) = lo at *
    generalize hiS ds (coef.zip vars) = hi at *
    rcases hr with rfl | rfl | rfl
    · rcases (show (C < lo) ∨ (lo = C ∧ hi = C) ∨ (lo = C ∧ C < hi) ∨ (lo < C ∧ C < hi) ∨ (lo < C ∧ hi = C) ∨ (hi < C) by omega) with hc | ⟨rfl, rfl⟩ | ⟨rfl, hc⟩ | ⟨hc, hc2⟩ | ⟨hc, rfl⟩ | hc
      · have g1 : (lo == C) = false := by simp; omega
        have g2 : (hi == C) = false := by simp; omega
        have g3 : decide (C < lo) = true := by simp; omega
        have g4 : decide (hi < C) = false := by simp; omega
        have g5 : decide (hi ≤ C) = false := by simp; omega
        have HV : sayV 1 C lo hi = -1 := by unfold sayV yesL noL; simp <;> omega
        rw [HV]
        clear HV
        go_enter Try.func95, Try.ntmps95
        go_wp2_with (go_at_call 98; (with_reducible refine CP.out.mono ?_); rintro e W ⟨rfl, bb⟩; have B1 := Lib.hid (HZ.out.trans (bb.mono HZ.out.size)); have y0 := bb.cell (p := ⟨w.heap.size, 2, none⟩) (by simp); have y1 := bb.cell (p := ⟨w.heap.size, 3, none⟩) (by simp); simp at y0 y1; clear bb)
        go_quiet (fail)
        go_wp2
        go_quiet (fail)
        go_wp2
        go_ret
        exact ⟨rfl, by first | exact B1.out | exact below_drewN B1.out _⟩
      · have HV : sayV 1 hi hi hi = 1 := by unfold sayV yesL noL; simp <;> omega
        rw [HV]
        clear HV
        go_enter Try.func95, Try.ntmps95
        go_wp2_with (go_at_call 98; (with_reducible refine CP.out.mono ?_); rintro e W ⟨rfl, bb⟩; have B1 := Lib.hid (HZ.out.trans (bb.mono HZ.out.size)); have y0 := bb.cell (p := ⟨w.heap.size, 2, none⟩) (by simp); have y1 := bb.cell (p := ⟨w.heap.size, 3, none⟩) (by simp); simp at y0 y1; clear bb)
        go_quiet (fail)
        go_wp2
        go_quiet (fail)
        go_wp2
        go_ret
        exact ⟨rfl, by first | exact B1.out | exact below_drewN B1.out _⟩
      · have g2 : (hi == lo) = false := by simp; omega
        have g4 : decide (hi < lo) = false := by simp; omega
        have g5 : decide (hi ≤ lo) = false := by simp; omega
        have HV : sayV 1 lo lo hi = 0 := by unfold sayV yesL noL; simp <;> omega
        rw [HV]
        clear HV
        go_enter Try.func95, Try.ntmps95
        go_wp2_with (go_at_call 98; (with_reducible refine CP.out.mono ?_); rintro e W ⟨rfl, bb⟩; have B1 := Lib.hid (HZ.out.trans (bb.mono HZ.out.size)); have y0 := bb.cell (p := ⟨w.heap.size, 2, none⟩) (by simp); have y1 := bb.cell (p := ⟨w.heap.size, 3, none⟩) (by simp); simp at y0 y1; clear bb)
        go_quiet (fail)
        go_wp2
        go_quiet (fail)
        go_wp2
        go_ret
        exact ⟨rfl, by first | exact B1.out | exact below_drewN B1.out _⟩
      · have g1 : (lo == C) = false := by simp; omega
        have g2 : (hi == C) = false := by simp; omega
        have g3 : decide (C < lo) = false := by simp; omega
        have g4 : decide (hi < C) = false := by simp; omega
        have g5 : decide (hi ≤ C) = false := by simp; omega
        have HV : sayV 1 C lo hi = 0 := by unfold sayV yesL noL; simp <;> omega
        rw [HV]
        clear HV
        go_enter Try.func95, Try.ntmps95
        go_wp2_with (go_at_call 98; (with_reducible refine CP.out.mono ?_); rintro e W ⟨rfl, bb⟩; have B1 := Lib.hid (HZ.out.trans (bb.mono HZ.out.size)); have y0 := bb.cell (p := ⟨w.heap.size, 2, none⟩) (by simp); have y1 := bb.cell (p := ⟨w.heap.size, 3, none⟩) (by simp); simp at y0 y1; clear bb)
        go_quiet (fail)
        go_wp2
        go_quiet (fail)
        go_wp2
        go_ret
        exact ⟨rfl, by first | exact B1.out | exact below_drewN B1.out _⟩
      · have g1 : (lo == hi) = false := by simp; omega
        have g3 : decide (hi < lo) = false := by simp; omega
        have HV : sayV 1 hi lo hi = 0 := by unfold sayV yesL noL; simp <;> omega
        rw [HV]
        clear HV
        go_enter Try.func95, Try.ntmps95
        go_wp2_with (go_at_call 98; (with_reducible refine CP.out.mono ?_); rintro e W ⟨rfl, bb⟩; have B1 := Lib.hid (HZ.out.trans (bb.mono HZ.out.size)); have y0 := bb.cell (p := ⟨w.heap.size, 2, none⟩) (by simp); have y1 := bb.cell (p := ⟨w.heap.size, 3, none⟩) (by simp); simp at y0 y1; clear bb)
        go_quiet (fail)
        go_wp2
        go_quiet (fail)
        go_wp2
        go_ret
        exact ⟨rfl, by first | exact B1.out | exact below_drewN B1.out _⟩
      · have g1 : (lo == C) = false := by simp; omega
        have g2 : (hi == C) = false := by simp; omega
        have g3 : decide (C < lo) = false := by simp; omega
        have g4 : decide (hi < C) = true := by simp; omega
        have g5 : decide (hi ≤ C) = true := by simp; omega
        have HV : sayV 1 C lo hi = -1 := by unfold sayV yesL noL; simp <;> omega
        rw [HV]
        clear HV
        go_enter Try.func95, Try.ntmps95
        go_wp2_with (go_at_call 98; (with_reducible refine CP.out.mono ?_); rintro e W ⟨rfl, bb⟩; have B1 := Lib.hid (HZ.out.trans (bb.mono HZ.out.size)); have y0 := bb.cell (p := ⟨w.heap.size, 2, none⟩) (by simp); have y1 := bb.cell (p := ⟨w.heap.size, 3, none⟩) (by simp); simp at y0 y1; clear bb)
        go_quiet (fail)
        go_wp2
        go_quiet (fail)
        go_wp2
        go_ret
        exact ⟨rfl, by first | exact B1.out | exact below_drewN B1.out _⟩
    · rcases (show (C < lo) ∨ (lo = C ∧ hi = C) ∨ (lo = C ∧ C < hi) ∨ (lo < C ∧ C < hi) ∨ (lo < C ∧ hi = C) ∨ (hi < C) by omega) with hc | ⟨rfl, rfl⟩ | ⟨rfl, hc⟩ | ⟨hc, hc2⟩ | ⟨hc, rfl⟩ | hc
      · have g1 : (lo == C) = false := by simp; omega
        have g2 : (hi == C) = false := by simp; omega
        have g3 : decide (C < lo) = true := by simp; omega
        have g4 : decide (hi < C) = false := by simp; omega
        have g5 : decide (hi ≤ C) = false := by simp; omega
        have HV : sayV 2 C lo hi = 1 := by unfold sayV yesL noL; simp <;> omega
        rw [HV]
        clear HV
        go_enter Try.func95, Try.ntmps95
        go_wp2_with (go_at_call 98; (with_reducible refine CP.out.mono ?_); rintro e W ⟨rfl, bb⟩; have B1 := Lib.hid (HZ.out.trans (bb.mono HZ.out.size)); have y0 := bb.cell (p := ⟨w.heap.size, 2, none⟩) (by simp); have y1 := bb.cell (p := ⟨w.heap.size, 3, none⟩) (by simp); simp at y0 y1; clear bb)
        go_quiet (fail)
        go_wp2
        go_quiet (fail)
        go_wp2
        go_ret
        exact ⟨rfl, by first | exact B1.out | exact below_drewN B1.out _⟩
      · have HV : sayV 2 hi hi hi = -1 := by unfold sayV yesL noL; simp <;> omega
        rw [HV]
        clear HV
        go_enter Try.func95, Try.ntmps95
        go_wp2_with (go_at_call 98; (with_reducible refine CP.out.mono ?_); rintro e W ⟨rfl, bb⟩; have B1 := Lib.hid (HZ.out.trans (bb.mono HZ.out.size)); have y0 := bb.cell (p := ⟨w.heap.size, 2, none⟩) (by simp); have y1 := bb.cell (p := ⟨w.heap.size, 3, none⟩) (by simp); simp at y0 y1; clear bb)
        go_quiet (fail)
        go_wp2
        go_quiet (fail)
        go_wp2
        go_ret
        exact ⟨rfl, by first | exact B1.out | exact below_drewN B1.out _⟩
      · have g2 : (hi == lo) = false := by simp; omega
        have g4 : decide (hi < lo) = false := by simp; omega
        have g5 : decide (hi ≤ lo) = false := by simp; omega
        have HV : sayV 2 lo lo hi = 0 := by unfold sayV yesL noL; simp <;> omega
        rw [HV]
        clear HV
        go_enter Try.func95, Try.ntmps95
        go_wp2_with (go_at_call 98; (with_reducible refine CP.out.mono ?_); rintro e W ⟨rfl, bb⟩; have B1 := Lib.hid (HZ.out.trans (bb.mono HZ.out.size)); have y0 := bb.cell (p := ⟨w.heap.size, 2, none⟩) (by simp); have y1 := bb.cell (p := ⟨w.heap.size, 3, none⟩) (by simp); simp at y0 y1; clear bb)
        go_quiet (fail)
        go_wp2
        go_quiet (fail)
        go_wp2
        go_ret
        exact ⟨rfl, by first | exact B1.out | exact below_drewN B1.out _⟩
      · have g1 : (lo == C) = false := by simp; omega
        have g2 : (hi == C) = false := by simp; omega
        have g3 : decide (C < lo) = false := by simp; omega
        have g4 : decide (hi < C) = false := by simp; omega
        have g5 : decide (hi ≤ C) = false := by simp; omega
        have HV : sayV 2 C lo hi = 0 := by unfold sayV yesL noL; simp <;> omega
        rw [HV]
        clear HV
        go_enter Try.func95, Try.ntmps95
        go_wp2_with (go_at_call 98; (with_reducible refine CP.out.mono ?_); rintro e W ⟨rfl, bb⟩; have B1 := Lib.hid (HZ.out.trans (bb.mono HZ.out.size)); have y0 := bb.cell (p := ⟨w.heap.size, 2, none⟩) (by simp); have y1 := bb.cell (p := ⟨w.heap.size, 3, none⟩) (by simp); simp at y0 y1; clear bb)
        go_quiet (fail)
        go_wp2
        go_quiet (fail)
        go_wp2
        go_ret
        exact ⟨rfl, by first | exact B1.out | exact below_drewN B1.out _⟩
      · have g1 : (lo == hi) = false := by simp; omega
        have g3 : decide (hi < lo) = false := by simp; omega
        have HV : sayV 2 hi lo hi = 0 := by unfold sayV yesL noL; simp <;> omega
        rw [HV]
        clear HV
        go_enter Try.func95, Try.ntmps95
        go_wp2_with (go_at_call 98; (with_reducible refine CP.out.mono ?_); rintro e W ⟨rfl, bb⟩; have B1 := Lib.hid (HZ.out.trans (bb.mono HZ.out.size)); have y0 := bb.cell (p := ⟨w.heap.size, 2, none⟩) (by simp); have y1 := bb.cell (p := ⟨w.heap.size, 3, none⟩) (by simp); simp at y0 y1; clear bb)
        go_quiet (fail)
        go_wp2
        go_quiet (fail)
        go_wp2
        go_ret
        exact ⟨rfl, by first | exact B1.out | exact below_drewN B1.out _⟩
      · have g1 : (lo == C) = false := by simp; omega
        have g2 : (hi == C) = false := by simp; omega
        have g3 : decide (C < lo) = false := by simp; omega
        have g4 : decide (hi < C) = true := by simp; omega
        have g5 : decide (hi ≤ C) = true := by simp; omega
        have HV : sayV 2 C lo hi = 1 := by unfold sayV yesL noL; simp <;> omega
        rw [HV]
        clear HV
        go_enter Try.func95, Try.ntmps95
        go_wp2_with (go_at_call 98; (with_reducible refine CP.out.mono ?_); rintro e W ⟨rfl, bb⟩; have B1 := Lib.hid (HZ.out.trans (bb.mono HZ.out.size)); have y0 := bb.cell (p := ⟨w.heap.size, 2, none⟩) (by simp); have y1 := bb.cell (p := ⟨w.heap.size, 3, none⟩) (by simp); simp at y0 y1; clear bb)
        go_quiet (fail)
        go_wp2
        go_quiet (fail)
        go_wp2
        go_ret
        exact ⟨rfl, by first | exact B1.out | exact below_drewN B1.out _⟩
    · rcases (show (C < lo) ∨ (lo = C ∧ hi = C) ∨ (lo = C ∧ C < hi) ∨ (lo < C ∧ C < hi) ∨ (lo < C ∧ hi = C) ∨ (hi < C) by omega) with hc | ⟨rfl, rfl⟩ | ⟨rfl, hc⟩ | ⟨hc, hc2⟩ | ⟨hc, rfl⟩ | hc
      · have g1 : (lo == C) = false := by simp; omega
        have g2 : (hi == C) = false := by simp; omega
        have g3 : decide (C < lo) = true := by simp; omega
        have g4 : decide (hi < C) = false := by simp; omega
        have g5 : decide (hi ≤ C) = false := by simp; omega
        have HV : sayV 3 C lo hi = -1 := by unfold sayV yesL noL; simp <;> omega
        rw [HV]
        clear HV
        go_enter Try.func95, Try.ntmps95
        go_wp2_with (go_at_call 98; (with_reducible refine CP.out.mono ?_); rintro e W ⟨rfl, bb⟩; have B1 := Lib.hid (HZ.out.trans (bb.mono HZ.out.size)); have y0 := bb.cell (p := ⟨w.heap.size, 2, none⟩) (by simp); have y1 := bb.cell (p := ⟨w.heap.size, 3, none⟩) (by simp); simp at y0 y1; clear bb)
        go_quiet (fail)
        go_wp2
        go_ret
        exact ⟨rfl, by first | exact B1.out | exact below_drewN B1.out _⟩
      · have HV : sayV 3 hi hi hi = 1 := by unfold sayV yesL noL; simp <;> omega
        rw [HV]
        clear HV
        go_enter Try.func95, Try.ntmps95
        go_wp2_with (go_at_call 98; (with_reducible refine CP.out.mono ?_); rintro e W ⟨rfl, bb⟩; have B1 := Lib.hid (HZ.out.trans (bb.mono HZ.out.size)); have y0 := bb.cell (p := ⟨w.heap.size, 2, none⟩) (by simp); have y1 := bb.cell (p := ⟨w.heap.size, 3, none⟩) (by simp); simp at y0 y1; clear bb)
        go_quiet (fail)
        go_wp2
        go_ret
        exact ⟨rfl, by first | exact B1.out | exact below_drewN B1.out _⟩
      · have g2 : (hi == lo) = false := by simp; omega
        have g4 : decide (hi < lo) = false := by simp; omega
        have g5 : decide (hi ≤ lo) = false := by simp; omega
        have HV : sayV 3 lo lo hi = 0 := by unfold sayV yesL noL; simp <;> omega
        rw [HV]
        clear HV
        go_enter Try.func95, Try.ntmps95
        go_wp2_with (go_at_call 98; (with_reducible refine CP.out.mono ?_); rintro e W ⟨rfl, bb⟩; have B1 := Lib.hid (HZ.out.trans (bb.mono HZ.out.size)); have y0 := bb.cell (p := ⟨w.heap.size, 2, none⟩) (by simp); have y1 := bb.cell (p := ⟨w.heap.size, 3, none⟩) (by simp); simp at y0 y1; clear bb)
        go_quiet (fail)
        go_wp2
        go_ret
        exact ⟨rfl, by first | exact B1.out | exact below_drewN B1.out _⟩
      · have g1 : (lo == C) = false := by simp; omega
        have g2 : (hi == C) = false := by simp; omega
        have g3 : decide (C < lo) = false := by simp; omega
        have g4 : decide (hi < C) = false := by simp; omega
        have g5 : decide (hi ≤ C) = false := by simp; omega
        have HV : sayV 3 C lo hi = 0 := by unfold sayV yesL noL; simp <;> omega
        rw [HV]
        clear HV
        go_enter Try.func95, Try.ntmps95
        go_wp2_with (go_at_call 98; (with_reducible refine CP.out.mono ?_); rintro e W ⟨rfl, bb⟩; have B1 := Lib.hid (HZ.out.trans (bb.mono HZ.out.size)); have y0 := bb.cell (p := ⟨w.heap.size, 2, none⟩) (by simp); have y1 := bb.cell (p := ⟨w.heap.size, 3, none⟩) (by simp); simp at y0 y1; clear bb)
        go_quiet (fail)
        go_wp2
        go_ret
        exact ⟨rfl, by first | exact B1.out | exact below_drewN B1.out _⟩
      · have g1 : (lo == hi) = false := by simp; omega
        have g3 : decide (hi < lo) = false := by simp; omega
        have HV : sayV 3 hi lo hi = 1 := by unfold sayV yesL noL; simp <;> omega
        rw [HV]
        clear HV
        go_enter Try.func95, Try.ntmps95
        go_wp2_with (go_at_call 98; (with_reducible refine CP.out.mono ?_); rintro e W ⟨rfl, bb⟩; have B1 := Lib.hid (HZ.out.trans (bb.mono HZ.out.size)); have y0 := bb.cell (p := ⟨w.heap.size, 2, none⟩) (by simp); have y1 := bb.cell (p := ⟨w.heap.size, 3, none⟩) (by simp); simp at y0 y1; clear bb)
        go_quiet (fail)
        go_wp2
        go_ret
        exact ⟨rfl, by first | exact B1.out | exact below_drewN B1.out _⟩
      · have g1 : (lo == C) = false := by simp; omega
        have g2 : (hi == C) = false := by simp; omega
        have g3 : decide (C < lo) = false := by simp; omega
        have g4 : decide (hi < C) = true := by simp; omega
        have g5 : decide (hi ≤ C) = true := by simp; omega
        have HV : sayV 3 C lo hi = 1 := by unfold sayV yesL noL; simp <;> omega
        rw [HV]
        clear HV
        go_enter Try.func95, Try.ntmps95
        go_wp2_with (go_at_call 98; (with_reducible refine CP.out.mono ?_); rintro e W ⟨rfl, bb⟩; have B1 := Lib.hid (HZ.out.trans (bb.mono HZ.out.size)); have y0 := bb.cell (p := ⟨w.heap.size, 2, none⟩) (by simp); have y1 := bb.cell (p := ⟨w.heap.size, 3, none⟩) (by simp); simp at y0 y1; clear bb)
        go_quiet (fail)
        go_wp2
        go_ret
        exact ⟨rfl, by first | exact B1.out | exact below_drewN B1.out _⟩
end Go.Proofs.Ytajooiainglpmaa
