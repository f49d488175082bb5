/-
  lin.part, lin.parts, lin.Sums, lin.Says, walked.
-/
import Derived.Test.YtmmogifmogdegaaDs
import Derived.Test.YtmmogifmogdegaaDomD
import Derived.Test.YtmmogifmogdegaaChk
import Derived.Test.YtmmogifmogdegaaBox
import Derived.Deep.RegionHeld3
import Derived.Deep.DeepCutAuto
import Derived.Handy
import Derived.Laws.ResultCell
namespace Go.Proofs.Ytmmogifmogdegaa
open Go.RowKit

theorem mul_bnd (x c B : Int) (hx : -200 ≤ x ∧ x ≤ 200) (hc : -B ≤ c ∧ c ≤ B) : -(200 * B) ≤ c * x ∧ c * x ≤ 200 * B := by
  have h1 : (c * x).natAbs ≤ B.toNat * 200 := by
    rw [Int.natAbs_mul]; exact Nat.mul_le_mul (by omega) (by omega)
  omega
theorem wrap_small {x : Int} (h : -9223372036854775808 ≤ x ∧ x ≤ 9223372036854775807) : IntKind.i64.wrap x = x := by
  simp [IntKind.wrap, IntKind.bits, IntKind.signed]; omega

set_option maxRecDepth 100000 in
set_option maxHeartbeats 800000 in
theorem part_c (vd : Value) (c : Int) (d : List Rg) (w : World) (hd : RgAt w vd d) (hl : d.length ≤ 4096) (hc : -100000 ≤ c ∧ c ≤ 100000) :
    Calls Try.prog 38 #[.int .i64 c, vd] w fun e w' => e = .returned (.tuple #[.agg #[.int .i64 (loT c d), .int .i64 (hiT c d)], .bool (okT d)]) ∧ Below w.heap.size w w' := by
  obtain ⟨ao, cap, rfl, _⟩ := hd.shape
  have CE : Hid (∀ W, Below w.heap.size w W → Calls Try.prog 46 #[.slice ao d.length cap] W fun e w' => e = .returned (.tuple #[.int .i64 (endsL (norm d)).1, .int .i64 (endsL (norm d)).2.1, .bool (endsL (norm d)).2.2]) ∧ Below W.heap.size W w') := fun W h => ends_c _ d W (hd.below h) hl
  obtain ⟨b1, b2, b3, b4⟩ := ends_bnd d
  unfold loT hiT okT
  clear hd
  generalize (endsL (norm d)).1 = lo at *
  generalize (endsL (norm d)).2.1 = hi at *
  generalize (endsL (norm d)).2.2 = ok at *
  obtain ⟨m1, m2⟩ := mul_bnd lo c 100000 ⟨b1, b2⟩ hc
  obtain ⟨m3, m4⟩ := mul_bnd hi c 100000 ⟨b3, b4⟩ hc
  have w1 := wrap_small (x := c * lo) (by omega)
  have w2 := wrap_small (x := c * hi) (by omega)
  have CE2 : Hid (Calls Try.prog 46 #[.slice ao d.length cap] (w.alloc (.cells #[.int .i64 0, .int .i64 0] 54)) fun e w' => e = .returned (.tuple #[.int .i64 lo, .int .i64 hi, .bool ok]) ∧
      Below w.heap.size w w' ∧ Box2 w' w.heap.size (.int .i64 0) (.int .i64 0)) :=
    (CE.out _ ((Below.refl _ _).alloc (Nat.le_refl _) _)).mono fun e w' ⟨he, hb⟩ => ⟨he, ((Below.refl _ _).alloc (Nat.le_refl _) _).trans (hb.mono (by simp)), (Box2.mk' _ _ _ _).past hb⟩
  by_cases h0 : c < 0
  · simp only [if_pos h0]
    go_enter Try.func38, Try.ntmps38
    go_wp2_with (go_at_call 46; (with_reducible refine CE2.out.mono ?_); rintro e W ⟨rfl, bb, qb⟩; have B1 := Lib.hid bb; have Q := Lib.hid qb; obtain ⟨q1, q2, q3, q4⟩ := qb; clear bb)
    have s0 := (Q.out.set0 (.int .i64 (c * hi))).c0
    have s1 := ((Q.out.set0 (.int .i64 (c * hi))).set1 (.int .i64 (c * lo))).c1
    refine bodyPost_ret (v := .tuple #[.agg #[.int .i64 (c * hi), .int .i64 (c * lo)], .bool ok]) (by rw [results_cell_tmp rfl]; go_simp) rfl ⟨rfl, (B1.out.setCell (p := ⟨w.heap.size, 0, none⟩) (Nat.le_refl _) _).setCell (p := ⟨w.heap.size, 1, none⟩) (Nat.le_refl _) _⟩
  · simp only [if_neg h0]
    go_enter Try.func38, Try.ntmps38
    go_wp2_with (go_at_call 46; (with_reducible refine CE2.out.mono ?_); rintro e W ⟨rfl, bb, qb⟩; have B1 := Lib.hid bb; have Q := Lib.hid qb; obtain ⟨q1, q2, q3, q4⟩ := qb; clear bb)
    have s0 := (Q.out.set0 (.int .i64 (c * lo))).c0
    have s1 := ((Q.out.set0 (.int .i64 (c * lo))).set1 (.int .i64 (c * hi))).c1
    refine bodyPost_ret (v := .tuple #[.agg #[.int .i64 (c * lo), .int .i64 (c * hi)], .bool ok]) (by rw [results_cell_tmp rfl]; go_simp) rfl ⟨rfl, (B1.out.setCell (p := ⟨w.heap.size, 0, none⟩) (Nat.le_refl _) _).setCell (p := ⟨w.heap.size, 1, none⟩) (Nat.le_refl _) _⟩
end Go.Proofs.Ytmmogifmogdegaa
