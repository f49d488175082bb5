/-
  The law DomMoves, walked.
-/
import Derived.Test.YtlihgipfimdlpaaTurns
import Derived.Test.YtlihgipfimdlpaaPl5
namespace Go.Proofs.Ytlihgipfimdlpaa
open Go.RowKit

theorem sh_len (a : List Rg) (n : Int) : (shiftL a n).length ≤ 4096 := Nat.le_trans (norm_len _) (by decide)
theorem sc_len (a : List Rg) (n : Int) : (scaleL a n).length ≤ 4096 := Nat.le_trans (norm_len _) (by decide)
theorem me_len (a b : List Rg) : (meetL a b).length ≤ 4096 := Nat.le_trans (canon_len _) (by decide)
theorem no_len (a : List Rg) : (norm a).length ≤ 4096 := Nat.le_trans (norm_len _) (by decide)

set_option maxRecDepth 100000 in
set_option maxHeartbeats 1600000 in
theorem domMoves_any (va : Value) (a : List Rg) (z : Int) (w : World) (ha : RgAt w va a) (hz : -32768 ≤ z ∧ z ≤ 32767) :
    Calls Try.prog 4 #[va, .int .i16 z] w fun e w' => e = .returned (.bool true) ∧ Below w.heap.size w w' := by
  obtain ⟨ao, cap, rfl, _⟩ := ha.shape
  obtain ⟨hz1, hz2⟩ := hz
  have CM : Hid (Calls Try.prog 11 #[.slice ao a.length cap, .slice none 0 0] w fun e w' => e = .returned (.bool (decide (100 < a.length) || decide (100 < ([] : List Rg).length))) ∧ w = w') := many_c _ _ a [] w ha RgAt.nil
  by_cases h1 : 100 < a.length
  · rw [show (decide (100 < a.length) || decide (100 < ([] : List Rg).length)) = true by simp [h1]] at CM
    go_enter Try.func4, Try.ntmps4
    go_wp2_with (go_at_call 11; (with_reducible refine CM.out.mono ?_); rintro e w' ⟨rfl, rfl⟩)
    go_ret
    exact ⟨rfl, Below.refl _ _⟩
  rw [show (decide (100 < a.length) || decide (100 < ([] : List Rg).length)) = false by simp; omega] at CM
  have hla : a.length ≤ 4096 := by omega
  have hn1 : -2500 < z.tmod 2500 := by have := Int.lt_tmod_of_pos z (show (0 : Int) < 2500 by decide); omega
  have hn2 : z.tmod 2500 < 2500 := Int.tmod_lt_of_pos z (by decide)
  generalize hn : z.tmod 2500 = n at hn1 hn2
  have C1 : Hid (∀ W, Below w.heap.size w W → Calls Try.prog 13 #[.slice ao a.length cap, .int .i64 n] W (RetR (shiftL a n) W)) := fun W h => shift_c _ a n W (ha.below h) hla
  have C2 : Hid (∀ W v, RgAt W v (shiftL a n) → Calls Try.prog 13 #[v, .int .i64 (-n)] W (RetR (shiftL (shiftL a n) (-n)) W)) := fun W v h => shift_c v _ (-n) W h (sh_len _ _)
  have C3 : Hid (∀ W v, RgAt W v [(-200, 200)] → Calls Try.prog 13 #[v, .int .i64 (-n)] W (RetR (shiftL [(-200, 200)] (-n)) W)) := fun W v h => shift_c v _ (-n) W h (by simp)
  have C4 : Hid (∀ W v, Below w.heap.size w W → RgAt W v (shiftL [(-200, 200)] (-n)) → Calls Try.prog 17 #[.slice ao a.length cap, v] W (RetR (shiftL (shiftL a n) (-n)) W)) := fun W v hB h => by
    rw [shift_back]; exact meet_c _ v a _ W (ha.below hB) h hla (sh_len _ _)
  have C6 : Hid (∀ W, Below w.heap.size w W → Calls Try.prog 15 #[.slice ao a.length cap, .int .i64 1] W (RetR (norm a) W)) := fun W h => by
    rw [← scale_one]; exact scale_c _ a 1 W (ha.below h) hla
  have C7 : Hid (∀ W, Below w.heap.size w W → Calls Try.prog 18 #[.slice ao a.length cap] W (RetR (norm a) W)) := fun W h => refNorm_c _ a W (ha.below h) hla
  have C8 : Hid (∀ W, Below w.heap.size w W → Calls Try.prog 15 #[.slice ao a.length cap, .int .i64 (-1)] W (RetR (scaleL a (-1)) W)) := fun W h => scale_c _ a (-1) W (ha.below h) hla
  have C9 : Hid (∀ W v, RgAt W v (scaleL a (-1)) → Calls Try.prog 15 #[v, .int .i64 (-1)] W (RetR (norm a) W)) := fun W v h => by
    rw [← scale_neg]; exact scale_c v _ (-1) W h (sc_len _ _)
  have hy : (shiftL (shiftL a n) (-n)).length ≤ 4096 := sh_len _ _
  have hna : (norm a).length ≤ 4096 := no_len _
  clear ha
  generalize shiftL (shiftL a n) (-n) = y at *
  generalize shiftL a n = x at *
  generalize shiftL [(-200, 200)] (-n) = s at *
  generalize scaleL a (-1) = m at *
  generalize norm a = na at *
  have BZ : Hid (Below w.heap.size w (w.alloc (.cells #[.int .i64 (-200), .int .i64 200] 28))) := (Below.refl _ _).alloc (Nat.le_refl _) _
  have RwZ : Hid (RgAt (w.alloc (.cells #[.int .i64 (-200), .int .i64 200] 28)) (.slice (some ⟨w.heap.size, 0, none⟩) 1 1) [(-200, 200)]) := rgAt_lit2 w (-200, 200) 28
  go_enter Try.func4, Try.ntmps4
  go_wp2_with (first
    | (go_at_call 11; (with_reducible refine CM.out.mono ?_); rintro e w' ⟨rfl, rfl⟩)
    | (go_at_call 13; (with_reducible refine (C1.out _ BZ.out).mono ?_); rintro e Wp ⟨aap, ccp, rfl, rp, bp⟩; have B1 := Lib.hid ((BZ.out).trans (bp.mono (BZ.out).size)); have Rp0 := Lib.hid rp; have Rw0 := Lib.hid (RwZ.out.below bp); clear rp bp)
    | (go_at_call 13; (with_reducible refine (C2.out _ _ Rp0.out).mono ?_); rintro e Wq ⟨aaq, ccq, rfl, rq, bq⟩; have B2 := Lib.hid ((B1.out).trans (bq.mono (B1.out).size)); have Rq1 := Lib.hid rq; have Rw1 := Lib.hid (Rw0.out.below bq); have Rp1 := Lib.hid (Rp0.out.below bq); clear rq bq)
    | (go_at_call 13; (with_reducible refine (C3.out _ _ Rw1.out).mono ?_); rintro e Ws ⟨aas, ccs, rfl, rs, bs⟩; have B3 := Lib.hid ((B2.out).trans (bs.mono (B2.out).size)); have Rs2 := Lib.hid rs; have Rw2 := Lib.hid (Rw1.out.below bs); have Rp2 := Lib.hid (Rp1.out.below bs); have Rq2 := Lib.hid (Rq1.out.below bs); clear rs bs)
    | (go_at_call 17; (with_reducible refine (C4.out _ _ B3.out Rs2.out).mono ?_); rintro e Wt ⟨aat, cct, rfl, rt, bt⟩; have B4 := Lib.hid ((B3.out).trans (bt.mono (B3.out).size)); have Rt3 := Lib.hid rt; have Rw3 := Lib.hid (Rw2.out.below bt); have Rp3 := Lib.hid (Rp2.out.below bt); have Rq3 := Lib.hid (Rq2.out.below bt); have Rs3 := Lib.hid (Rs2.out.below bt); clear rt bt)
    | (go_at_call 12; (with_reducible refine (same_t _ _ _ _ Rq3.out Rt3.out hy).mono ?_); rintro e w' ⟨rfl, q, rfl⟩; have B5 := Lib.hid (below_drewN B4.out q); have Rw4 := Lib.hid (RgAt.drewN Rw3.out q); have Rp4 := Lib.hid (RgAt.drewN Rp3.out q); have Rs4 := Lib.hid (RgAt.drewN Rs3.out q))
    | (go_at_call 15; (with_reducible refine (C6.out _ B5.out).mono ?_); rintro e Wu ⟨aau, ccu, rfl, ru, bu⟩; have B6 := Lib.hid ((B5.out).trans (bu.mono (B5.out).size)); have Ru5 := Lib.hid ru; have Rw5 := Lib.hid (Rw4.out.below bu); have Rp5 := Lib.hid (Rp4.out.below bu); have Rs5 := Lib.hid (Rs4.out.below bu); clear ru bu)
    | (go_at_call 18; (with_reducible refine (C7.out _ B6.out).mono ?_); rintro e Wv ⟨aav, ccv, rfl, rv, bv⟩; have B7 := Lib.hid ((B6.out).trans (bv.mono (B6.out).size)); have Rv6 := Lib.hid rv; have Rw6 := Lib.hid (Rw5.out.below bv); have Rp6 := Lib.hid (Rp5.out.below bv); have Rs6 := Lib.hid (Rs5.out.below bv); have Ru6 := Lib.hid (Ru5.out.below bv); clear rv bv)
    | (go_at_call 12; (with_reducible refine (same_t _ _ _ _ Ru6.out Rv6.out hna).mono ?_); rintro e w' ⟨rfl, q, rfl⟩; have B8 := Lib.hid (below_drewN B7.out q); have Rw7 := Lib.hid (RgAt.drewN Rw6.out q); have Rp7 := Lib.hid (RgAt.drewN Rp6.out q); have Rs7 := Lib.hid (RgAt.drewN Rs6.out q))
    | (go_at_call 15; (with_reducible refine (C8.out _ B8.out).mono ?_); rintro e Wm ⟨aam, ccm, rfl, rm, bm⟩; have B9 := Lib.hid ((B8.out).trans (bm.mono (B8.out).size)); have Rm8 := Lib.hid rm; have Rw8 := Lib.hid (Rw7.out.below bm); have Rp8 := Lib.hid (Rp7.out.below bm); have Rs8 := Lib.hid (Rs7.out.below bm); clear rm bm)
    | (go_at_call 15; (with_reducible refine (C9.out _ _ Rm8.out).mono ?_); rintro e Wx ⟨aax, ccx, rfl, rx, bx⟩; have B10 := Lib.hid ((B9.out).trans (bx.mono (B9.out).size)); have Rx9 := Lib.hid rx; have Rw9 := Lib.hid (Rw8.out.below bx); have Rp9 := Lib.hid (Rp8.out.below bx); have Rs9 := Lib.hid (Rs8.out.below bx); have Rm9 := Lib.hid (Rm8.out.below bx); clear rx bx)
    | (go_at_call 18; (with_reducible refine (C7.out _ B10.out).mono ?_); rintro e Wk ⟨aak, cck, rfl, rk, bk⟩; have B11 := Lib.hid ((B10.out).trans (bk.mono (B10.out).size)); have Rk10 := Lib.hid rk; have Rw10 := Lib.hid (Rw9.out.below bk); have Rp10 := Lib.hid (Rp9.out.below bk); have Rs10 := Lib.hid (Rs9.out.below bk); have Rm10 := Lib.hid (Rm9.out.below bk); have Rx10 := Lib.hid (Rx9.out.below bk); clear rk bk)
    | (go_at_call 12; (with_reducible refine (same_t _ _ _ _ Rx10.out Rk10.out hna).mono ?_); rintro e w' ⟨rfl, q, rfl⟩; have B12 := Lib.hid (below_drewN B11.out q); have Rw11 := Lib.hid (RgAt.drewN Rw10.out q); have Rp11 := Lib.hid (RgAt.drewN Rp10.out q); have Rs11 := Lib.hid (RgAt.drewN Rs10.out q); have Rm11 := Lib.hid (RgAt.drewN Rm10.out q)))
  go_ret
  exact ⟨rfl, B12.out⟩
end Go.Proofs.Ytlihgipfimdlpaa
