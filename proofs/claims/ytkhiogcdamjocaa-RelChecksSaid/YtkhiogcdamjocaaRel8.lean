/-
  coneylaw16.sameInts and the law RelChecks, walked.
-/
import Derived.Test.YtkhiogcdamjocaaRel7
namespace Go.Proofs.Ytkhiogcdamjocaa
open Go.RowKit

set_option maxHeartbeats 800000 in
theorem sameInts16_c (v0 v1 : Value) (zs : List Int) (w : World) (h0 : IsAt w v0 zs) (h1 : IsAt w v1 zs) (hl : zs.length ≤ 4097) :
    Calls Try.prog 9 #[v0, v1] w fun e w' => e = .returned (.bool true) ∧ Below w.heap.size w w' := by
  obtain ⟨a0, c0, rfl, _⟩ := SlAt.shape h0
  obtain ⟨a1, c1, rfl, _⟩ := SlAt.shape h1
  have H0 := Lib.hid h0
  have H1 := Lib.hid h1
  clear h0 h1
  go_enter Try.func9, Try.ntmps9
  go_wp2
  go_loopw [5] (fun s wr => ∃ i : Nat, i ≤ zs.length ∧ s = .int .i64 i ∧ Hid (Below w.heap.size w wr)) (fun s _ => zs.length - (intOf s).toNat)
  case atStart => exact ⟨0, by omega, rfl, Lib.hid (Below.refl _ _)⟩
  case round =>
    obtain ⟨i, hil, rfl, HB⟩ := hrel
    by_cases hlt : i < zs.length
    · obtain ⟨b1, o1, rfl, q1, q2, x1⟩ := H0.out.getR i hlt
      obtain ⟨b2, o2, rfl, q3, q4, x2⟩ := H1.out.getR i hlt
      rw [← HB.out.cell (p := ⟨b1, o1 + i, none⟩) q2] at x1
      rw [← HB.out.cell (p := ⟨b2, o2 + i, none⟩) q4] at x2
      have j1 : (i : Int) < zs.length := by omega
      generalize zs[i] = v at *
      go_wp2
      go_quiet (fail)
      go_wp2
      exact ⟨⟨i + 1, by omega, by go_num, Lib.hid (below_drewN HB.out _)⟩, by simp [intOf]; omega⟩
    · obtain rfl : i = zs.length := by omega
      go_wp2
      go_ret
      exact ⟨rfl, HB.out⟩

set_option maxRecDepth 100000 in
set_option maxHeartbeats 1600000 in
theorem relChecks_any (kind : Int) (va vb vv : Value) (rel c x y z n : Int) (coef vars vs : List Int) (w : World) (h0 : IsAt w va coef) (h1 : IsAt w vb vars) (h2 : IsAt w vv vs) :
    Calls Try.prog 3 #[propV kind va vb rel c x y z vv, .int .i64 n] w fun e w' => e = .returned (.bool true) ∧ Below w.heap.size w w' := by
  obtain ⟨a0, c0, rfl, _⟩ := SlAt.shape h0
  obtain ⟨a1, c1, rfl, _⟩ := SlAt.shape h1
  obtain ⟨a2, c2, rfl, _⟩ := SlAt.shape h2
  have HB : Hid (Below w.heap.size w (w.alloc (.cells #[.int .i64 kind, .slice a0 coef.length c0, .slice a1 vars.length c1, .int .i64 rel, .int .i64 c, .int .i64 x, .int .i64 y, .int .i64 z, .slice a2 vs.length c2] 26))) := (Below.refl _ _).alloc (Nat.le_refl _) _
  by_cases hl : 100 < coef.length
  · clear h0 h1 h2
    unfold propV
    go_enter Try.func3, Try.ntmps3
    go_wp2
    go_ret
    exact ⟨rfl, HB.out⟩
  by_cases hv : 100 < vars.length
  · clear h0 h1 h2
    unfold propV
    go_enter Try.func3, Try.ntmps3
    go_wp2
    go_ret
    exact ⟨rfl, HB.out⟩
  by_cases hs : 100 < vs.length
  · clear h0 h1 h2
    unfold propV
    go_enter Try.func3, Try.ntmps3
    go_wp2
    go_ret
    exact ⟨rfl, HB.out⟩
  have hal : (allL kind vars x y z vs).length ≤ 4096 := by
    unfold allL; split
    · omega
    · split
      · simp
      · split
        · omega
        · split <;> simp; omega
  have hul := uniqL_len (allL kind vars x y z vs)
  have C1 : Hid (∀ W, Below w.heap.size w W → Calls Try.prog 7 #[.agg #[.int .i64 kind, .slice a0 coef.length c0, .slice a1 vars.length c1, .int .i64 rel, .int .i64 c, .int .i64 x, .int .i64 y, .int .i64 z, .slice a2 vs.length c2], .int .i64 n] W fun e w' => e = .returned (.int .i64 (relChk kind rel c x y z coef vars vs n)) ∧ Below W.heap.size W w') := fun W h => check_c kind _ _ _ rel c x y z n coef vars vs W (h0.below h) (h1.below h) (h2.below h) (by omega) (by omega) (by omega)
  have C2 : Hid (∀ W, Below w.heap.size w W → Calls Try.prog 8 #[.agg #[.int .i64 kind, .slice a0 coef.length c0, .slice a1 vars.length c1, .int .i64 rel, .int .i64 c, .int .i64 x, .int .i64 y, .int .i64 z, .slice a2 vs.length c2], .int .i64 n] W fun e w' => e = .returned (.int .i64 (relChk kind rel c x y z coef vars vs n)) ∧ Below W.heap.size W w') := fun W h => refRelCheck_c kind _ _ _ rel c x y z n coef vars vs W (h0.below h) (h1.below h) (h2.below h) (by omega) (by omega) (by omega)
  have C3 : Hid (∀ W, Below w.heap.size w W → Calls Try.prog 10 #[.agg #[.int .i64 kind, .slice a0 coef.length c0, .slice a1 vars.length c1, .int .i64 rel, .int .i64 c, .int .i64 x, .int .i64 y, .int .i64 z, .slice a2 vs.length c2]] W fun e w' => ∃ ao cap, e = .returned (.slice ao (uniqL (allL kind vars x y z vs)).length cap) ∧ IsAt w' (.slice ao (uniqL (allL kind vars x y z vs)).length cap) (uniqL (allL kind vars x y z vs)) ∧ Below W.heap.size W w') := fun W h => vars_c kind _ _ _ rel c x y z coef vars vs W (h0.below h) (h1.below h) (h2.below h) (by omega) (by omega)
  have C4 : Hid (∀ W, Below w.heap.size w W → Calls Try.prog 11 #[.agg #[.int .i64 kind, .slice a0 coef.length c0, .slice a1 vars.length c1, .int .i64 rel, .int .i64 c, .int .i64 x, .int .i64 y, .int .i64 z, .slice a2 vs.length c2]] W fun e w' => ∃ ao cap, e = .returned (.slice ao (uniqL (allL kind vars x y z vs)).length cap) ∧ IsAt w' (.slice ao (uniqL (allL kind vars x y z vs)).length cap) (uniqL (allL kind vars x y z vs)) ∧ Below W.heap.size W w') := fun W h => refVars_c kind _ _ _ rel c x y z coef vars vs W (h0.below h) (h1.below h) (h2.below h) (by omega) (by omega)
  have HC : Hid (∀ W, Below (w.alloc (.cells #[.int .i64 kind, .slice a0 coef.length c0, .slice a1 vars.length c1, .int .i64 rel, .int .i64 c, .int .i64 x, .int .i64 y, .int .i64 z, .slice a2 vs.length c2] 26)).heap.size (w.alloc (.cells #[.int .i64 kind, .slice a0 coef.length c0, .slice a1 vars.length c1, .int .i64 rel, .int .i64 c, .int .i64 x, .int .i64 y, .int .i64 z, .slice a2 vs.length c2] 26)) W → _) := fun W h => box9 h
  generalize relChk kind rel c x y z coef vars vs n = R at *
  generalize uniqL (allL kind vars x y z vs) = U at *
  clear h0 h1 h2
  unfold propV
  go_enter Try.func3, Try.ntmps3
  go_wp2
  generalize (w.alloc (.cells #[.int .i64 kind, .slice a0 coef.length c0, .slice a1 vars.length c1, .int .i64 rel, .int .i64 c, .int .i64 x, .int .i64 y, .int .i64 z, .slice a2 vs.length c2] 26)) = W0 at *
  have K1 : Hid (∀ W, Below W0.heap.size W0 W → _) := fun W h => (C1.out W (HB.out.trans (h.mono HB.out.size))).mono (R' := fun e w' => e = .returned (.int .i64 R) ∧ Below W0.heap.size W0 w') fun e w' ⟨he, hb⟩ => ⟨he, h.trans (hb.mono h.size)⟩
  have K2 : Hid (∀ W, Below W0.heap.size W0 W → _) := fun W h => (C2.out W (HB.out.trans (h.mono HB.out.size))).mono (R' := fun e w' => e = .returned (.int .i64 R) ∧ Below W0.heap.size W0 w') fun e w' ⟨he, hb⟩ => ⟨he, h.trans (hb.mono h.size)⟩
  have K3 : Hid (∀ W, Below W0.heap.size W0 W → _) := fun W h => (C3.out W (HB.out.trans (h.mono HB.out.size))).mono (R' := fun e w' => ∃ ao cap, e = .returned (.slice ao U.length cap) ∧ IsAt w' (.slice ao U.length cap) U ∧ Below W0.heap.size W0 w') fun e w' ⟨a, c, he, hi, hb⟩ => ⟨a, c, he, hi, h.trans (hb.mono h.size)⟩
  have K4 : Hid (∀ W, Below W0.heap.size W0 W → _) := fun W h => (C4.out W (HB.out.trans (h.mono HB.out.size))).mono (R' := fun e w' => (∃ ao cap, e = .returned (.slice ao U.length cap) ∧ IsAt w' (.slice ao U.length cap) U) ∧ Below W0.heap.size W0 w' ∧ Below W.heap.size W w') fun e w' ⟨a, c, he, hi, hb⟩ => ⟨⟨a, c, he, hi⟩, h.trans (hb.mono h.size), hb⟩
  clear C1 C2 C3 C4
  go_region_held3 (fun W' => W'.cell? ⟨w.heap.size, 0, none⟩ = some (.int .i64 kind) ∧ W'.cell? ⟨w.heap.size, 1, none⟩ = some (.slice a0 coef.length c0) ∧ W'.cell? ⟨w.heap.size, 2, none⟩ = some (.slice a1 vars.length c1) ∧ W'.cell? ⟨w.heap.size, 3, none⟩ = some (.int .i64 rel) ∧ W'.cell? ⟨w.heap.size, 4, none⟩ = some (.int .i64 c) ∧ W'.cell? ⟨w.heap.size, 5, none⟩ = some (.int .i64 x) ∧ W'.cell? ⟨w.heap.size, 6, none⟩ = some (.int .i64 y) ∧ W'.cell? ⟨w.heap.size, 7, none⟩ = some (.int .i64 z) ∧ W'.cell? ⟨w.heap.size, 8, none⟩ = some (.slice a2 vs.length c2))
    (first | exact HC.out _ B5.out | exact HC.out _ B4.out | exact HC.out _ B3.out | exact HC.out _ B2.out | exact HC.out _ B1.out | (refine HC.out _ ?_; go_grown))
    (first
      | (go_at_call 7; (with_reducible refine (K1.out _ ?_).mono ?_); (· go_grown); rintro e W1 ⟨rfl, bb⟩; have B1 := Lib.hid bb; clear bb)
      | (go_at_call 8; (with_reducible refine (K2.out _ ?_).mono ?_); (· first | exact B1.out | go_grown); rintro e W2 ⟨rfl, bb⟩; have B2 := Lib.hid bb; clear bb)
      | (go_at_call 10; (with_reducible refine (K3.out _ ?_).mono ?_); (· first | exact B2.out | go_grown); rintro e W3 ⟨a3, c3, rfl, i3, bb⟩; have B3 := Lib.hid bb; have I3 := Lib.hid i3; clear bb i3)
      | (go_at_call 11; (with_reducible refine (K4.out _ ?_).mono ?_); (· first | exact B3.out | go_grown); rintro e W4 ⟨⟨a4, c4, rfl, i4⟩, bb, bx⟩; have B4 := Lib.hid bb; have I3 := Lib.hid (I3.out.below bx); have I4 := Lib.hid i4; clear bb i4 bx)
      | (go_at_call 9; (with_reducible refine (sameInts16_c _ _ U _ I3.out I4.out (by omega)).mono ?_); rintro e W5 ⟨rfl, bb⟩; have B5 := Lib.hid (B4.out.trans (bb.mono B4.out.size)); clear bb))
  all_goals (go_wp2; go_ret; exact ⟨rfl, HB.out.trans (B5.out.mono HB.out.size)⟩)
end Go.Proofs.Ytkhiogcdamjocaa
