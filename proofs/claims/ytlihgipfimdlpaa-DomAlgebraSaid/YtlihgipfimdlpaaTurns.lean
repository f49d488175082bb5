/-
  The law DomTurns, walked.
-/
import Derived.Test.YtlihgipfimdlpaaDomE
namespace Go.Proofs.Ytlihgipfimdlpaa
open Go.RowKit

theorem RgAt.drewN {w : World} {v : Value} {l : List Rg} (h : RgAt w v l) (q : Nat) : RgAt (w.drewN q) v l := h
theorem same_t (va vb : Value) (a : List Rg) (w : World) (ha : RgAt w va a) (hb : RgAt w vb a) (hl : a.length ≤ 4096) :
    Calls Try.prog 12 #[va, vb] w fun e w' => e = .returned (.bool true) ∧ ∃ q, w' = w.drewN q := by
  have h := same_c va vb a a w ha hb hl hl
  simpa using h

set_option maxRecDepth 100000 in
set_option maxHeartbeats 1600000 in
theorem domTurns_any (va : Value) (a : List Rg) (by' : Int) (w : World) (ha : RgAt w va a) :
    Calls Try.prog 3 #[va, .int .i64 by'] w fun e w' => e = .returned (.bool true) ∧ Below w.heap.size w w' := by
  obtain ⟨ao, cap, rfl, _⟩ := ha.shape
  have CM : Hid (Calls Try.prog 11 #[.slice ao a.length cap, .slice none 0 0] w fun e w' => e = .returned (.bool (decide (100 < a.length) || decide (100 < ([] : List Rg).length))) ∧ w = w') := many_c _ _ a [] w ha RgAt.nil
  by_cases h1 : 100 < a.length
  · rw [show (decide (100 < a.length) || decide (100 < ([] : List Rg).length)) = true by simp [h1]] at CM
    go_enter Try.func3, Try.ntmps3
    go_wp2_with (go_at_call 11; (with_reducible refine CM.out.mono ?_); rintro e w' ⟨rfl, rfl⟩)
    go_ret
    exact ⟨rfl, Below.refl _ _⟩
  rw [show (decide (100 < a.length) || decide (100 < ([] : List Rg).length)) = false by simp; omega] at CM
  have hla : a.length ≤ 4096 := by omega
  have C1 : Hid (∀ W, Below w.heap.size w W → Calls Try.prog 13 #[.slice ao a.length cap, .int .i64 by'] W (RetR (shiftL a by') W)) := fun W h => shift_c _ a by' W (ha.below h) hla
  have C2 : Hid (∀ W, Below w.heap.size w W → Calls Try.prog 14 #[.slice ao a.length cap, .int .i64 by'] W (RetR (shiftL a by') W)) := fun W h => refShift_c _ a by' W (ha.below h) hla
  have C3 : Hid (∀ W, Below w.heap.size w W → Calls Try.prog 15 #[.slice ao a.length cap, .int .i64 by'] W (RetR (scaleL a by') W)) := fun W h => scale_c _ a by' W (ha.below h) hla
  have C4 : Hid (∀ W, Below w.heap.size w W → Calls Try.prog 16 #[.slice ao a.length cap, .int .i64 by'] W (RetR (scaleL a by') W)) := fun W h => refScale_c _ a by' W (ha.below h) hla
  have hs : (shiftL a by').length ≤ 4096 := Nat.le_trans (norm_len _) (by decide)
  have ht : (scaleL a by').length ≤ 4096 := Nat.le_trans (norm_len _) (by decide)
  clear ha
  generalize shiftL a by' = x at *
  generalize scaleL a by' = y at *
  have B0 : Hid (Below w.heap.size w w) := Below.refl _ _
  go_enter Try.func3, Try.ntmps3
  go_wp2_with (first
    | (go_at_call 11; (with_reducible refine CM.out.mono ?_); rintro e w' ⟨rfl, rfl⟩)
    | (go_at_call 13; (with_reducible refine (C1.out _ B0.out).mono ?_); rintro e Wp ⟨aap, ccp, rfl, rp, bp⟩; have B1 := Lib.hid (B0.out.trans (bp.mono B0.out.size)); have Rp0 := Lib.hid rp; clear rp bp)
    | (go_at_call 14; (with_reducible refine (C2.out _ B1.out).mono ?_); rintro e Wr ⟨aar, ccr, rfl, rr, br⟩; have B2 := Lib.hid (B1.out.trans (br.mono B1.out.size)); have Rr1 := Lib.hid rr; have Rp1 := Lib.hid (Rp0.out.below br); clear rr br)
    | (go_at_call 12; (with_reducible refine (same_t _ _ _ _ Rp1.out Rr1.out hs).mono ?_); rintro e w' ⟨rfl, q, rfl⟩; have B3 := Lib.hid (below_drewN B2.out q))
    | (go_at_call 15; (with_reducible refine (C3.out _ B3.out).mono ?_); rintro e Ws ⟨aas, ccs, rfl, rs, bs⟩; have B4 := Lib.hid (B3.out.trans (bs.mono B3.out.size)); have Rs3 := Lib.hid rs; clear rs bs)
    | (go_at_call 16; (with_reducible refine (C4.out _ B4.out).mono ?_); rintro e Wt ⟨aat, cct, rfl, rt, bt⟩; have B5 := Lib.hid (B4.out.trans (bt.mono B4.out.size)); have Rt4 := Lib.hid rt; have Rs4 := Lib.hid (Rs3.out.below bt); clear rt bt)
    | (go_at_call 12; (with_reducible refine (same_t _ _ _ _ Rs4.out Rt4.out ht).mono ?_); rintro e w' ⟨rfl, q, rfl⟩; have B6 := Lib.hid (below_drewN B5.out q)))
  go_ret
  exact ⟨rfl, B6.out⟩
end Go.Proofs.Ytlihgipfimdlpaa
