/-
  coneyref10.Split, walked.
  The law NormSplits, walked.
-/
import Derived.Test.YtmffobadnmkpbaaKnorm5
import Derived.Test.YtmffobadnmkpbaaKnorm4
namespace Go.Proofs.Ytmffobadnmkpbaa
open Go.RowKit

theorem isBar_c (t : Tm) (ao : Option Addr) (c : Nat) (k : Nat) (W : World) : Calls Try.prog 84 #[.agg #[.int .i64 t.kind, .int .i64 t.num, .string t.name, .slice ao t.args.length c], .string ⟨#[58, 45]⟩, .int .i64 k] W fun e w' => e = .returned (.bool (t.is [58, 45] k)) ∧ Below W.heap.size W w' := by
  have h := isRef_c t ao c ⟨#[58, 45]⟩ k W
  rw [isR_is t ⟨#[58, 45]⟩ [58, 45] k (toList_lit [58, 45]) (by simp)] at h
  exact h
theorem isBar1_c (t : Tm) (ao : Option Addr) (c : Nat) (W : World) : Calls Try.prog 84 #[.agg #[.int .i64 t.kind, .int .i64 t.num, .string t.name, .slice ao t.args.length c], .string ⟨#[58, 45]⟩, .int .i64 1] W fun e w' => e = .returned (.bool (t.is [58, 45] 1)) ∧ Below W.heap.size W w' := isBar_c t ao c 1 W
theorem isBar2_c (t : Tm) (ao : Option Addr) (c : Nat) (W : World) : Calls Try.prog 84 #[.agg #[.int .i64 t.kind, .int .i64 t.num, .string t.name, .slice ao t.args.length c], .string ⟨#[58, 45]⟩, .int .i64 2] W fun e w' => e = .returned (.bool (t.is [58, 45] 2)) ∧ Below W.heap.size W w' := isBar_c t ao c 2 W
theorem badR_cases (h : Tm) : (h.named = false ∧ badHead h = true) ∨ (h.named = true ∧ controlT h = true ∧ badHead h = true) ∨ (h.named = true ∧ controlT h = false ∧ h.is [58, 45] 1 = true ∧ badHead h = true) ∨ (h.named = true ∧ controlT h = false ∧ h.is [58, 45] 1 = false ∧ h.is [58, 45] 2 = true ∧ badHead h = true) ∨
    (h.named = true ∧ controlT h = false ∧ h.is [58, 45] 1 = false ∧ h.is [58, 45] 2 = false ∧ badHead h = false) := by
  simp only [badHead]
  cases h.named <;> cases controlT h <;> cases h.is [58, 45] 1 <;> cases h.is [58, 45] 2 <;> simp

set_option maxRecDepth 100000 in
set_option maxHeartbeats 6400000 in
theorem rsplit_fact (t : Tm) (ao : Option Addr) (cc : Nat) (w : World) (ht' : TmAt (fun b => b < w.heap.size) w t (.slice ao t.args.length cc)) (hc : t.is [58, 45] 2 = false) :
    Calls Try.prog 41 #[.agg #[.int .i64 t.kind, .int .i64 t.num, .string t.name, .slice ao t.args.length cc]] w (RetSplit t w) := by
  have S0 := Lib.hid (SB.start w (.cells #[.int .i64 t.kind, .int .i64 t.num, .string t.name, .slice ao t.args.length cc] 24) t _ 24 ht')
  have X0 := Lib.hid (start_box w t (.slice ao t.args.length cc) 24 (.cells #[.int .i64 0, .int .i64 0, .string ⟨#[]⟩, .slice none 0 0] 24) (.cells #[.int .i64 0, .int .i64 0, .string ⟨#[]⟩, .slice none 0 0] 24) (.cells #[.int .i64 t.kind, .int .i64 t.num, .string t.name, .slice ao t.args.length cc] 24) (.cells #[.int .i64 3, .int .i64 0, .string ⟨#[116, 114, 117, 101]⟩, .slice none 0 0] 24))
  have CI := Lib.hid (fun W => isBar2_c t ao cc W)
  rw [hc] at CI
  have CGT : Hid (∀ W, Below w.heap.size w W → Calls Try.prog 36 #[.agg #[.int .i64 trueT.kind, .int .i64 trueT.num, .string trueT.name, .slice none 0 0]] W fun e w' => ∃ a n c, e = .returned (.tuple #[.slice a n c, .int .i64 0]) ∧ Below W.heap.size W w') := fun W _ => (rgoals_c trueT (.slice none 0 0) W (.leaf rfl) (.atom (by decide)) (by simp [trueT, Tm.size])).mono fun e w' h => by
    have h' : RetRGoals trueT W e w' := h
    simp only [RetRGoals, show trueT.callable = true from rfl, if_true] at h'
    obtain ⟨a, c, h1, _, h4⟩ := h'
    exact ⟨a, _, c, h1, h4⟩
  have hh : headT t = t := by simp [headT, hc]
  have hb : bodyT t = trueT := by simp [bodyT, hc]
  have HH := Lib.hid hh
  have HB := Lib.hid hb
  clear hc hh hb ht'
  go_enter Try.func41, Try.ntmps41
  go_upto_region 6 with (first
    | (go_at_call 84; ((with_reducible refine (CI.out _).mono ?_); rintro e W1 ⟨rfl, bb⟩; have S1 := Lib.hid (S0.out.below bb); clear bb)))
  obtain ⟨⟨a0, a1, a2, a3⟩, b0, b1, b2, b3⟩ := S1.out.facts
  obtain ⟨⟨⟨c0, f0⟩, ⟨c1, f1⟩, ⟨c2, f2⟩, c3, f3⟩, ⟨d0, g0⟩, ⟨d1, g1⟩, ⟨d2, g2⟩, d3, g3⟩ := S1.out.zeros
  clear S0 CI X0
  have CNH := Lib.hid (fun W => refName_c t ao cc W)
  have CTH := Lib.hid (fun W => refControl_c t ao cc W)
  have C1H := Lib.hid (fun W => isBar1_c t ao cc W)
  have C2H := Lib.hid (fun W => isBar2_c t ao cc W)
  rcases badR_cases t with ⟨e1, e9⟩ | ⟨e1, e2, e9⟩ | ⟨e1, e2, e3, e9⟩ | ⟨e1, e2, e3, e4, e9⟩ | ⟨e1, e2, e3, e4, e9⟩
  · have E9 := Lib.hid e9
    rw [e1] at CNH
    clear e9 e1
    go_wp2_with (first | (go_at_call 42; ((with_reducible refine (CNH.out _).mono ?_); rintro e W5 ⟨rfl, bb⟩; have S5 := Lib.hid (S1.out.below bb); clear a0 a1 a2 a3 b0 b1 b2 b3 c0 c1 c2 c3 d0 d1 d2 d3 f0 f1 f2 f3 g0 g1 g2 g3; obtain ⟨⟨a0, a1, a2, a3⟩, b0, b1, b2, b3⟩ := S5.out.facts; obtain ⟨⟨⟨c0, f0⟩, ⟨c1, f1⟩, ⟨c2, f2⟩, c3, f3⟩, ⟨d0, g0⟩, ⟨d1, g1⟩, ⟨d2, g2⟩, d3, g3⟩ := S5.out.zeros; clear bb)))
    refine post_gen fun W9 hW9 => ?_
    have hr' := S5.out.res9 rfl (.inl hW9)
    clear hW9
    obtain ⟨⟨z0, z1, z2, z3⟩, y0, y1, y2, y3⟩ := kk2 hr'.1 hr'.2.1
    clear a0 a1 a2 a3 b0 b1 b2 b3 c0 c1 c2 c3 d0 d1 d2 d3 f0 f1 f2 f3 g0 g1 g2 g3
    refine bodyPost_ret (v := .tuple #[.agg #[.int .i64 0, .int .i64 0, .string ⟨#[]⟩, .slice none 0 0], .agg #[.int .i64 0, .int .i64 0, .string ⟨#[]⟩, .slice none 0 0], .int .i64 100]) (by simp [results, Try.results41, go_sem, z0, z1, z2, z3, y0, y1, y2, y3]; try rfl) rfl ?_
    unfold RetSplit
    rw [split_bad (by rw [HH.out]; exact E9.out)]
    exact ⟨none, 0, none, 0, rfl, .leaf rfl, .leaf rfl, hr'.2.2⟩
  · have E9 := Lib.hid e9
    rw [e1] at CNH
    rw [e2] at CTH
    clear e9 e1 e2
    go_wp2_with (first | (go_at_call 42; ((with_reducible refine (CNH.out _).mono ?_); rintro e W5 ⟨rfl, bb⟩; have S5 := Lib.hid (S1.out.below bb); clear a0 a1 a2 a3 b0 b1 b2 b3 c0 c1 c2 c3 d0 d1 d2 d3 f0 f1 f2 f3 g0 g1 g2 g3; obtain ⟨⟨a0, a1, a2, a3⟩, b0, b1, b2, b3⟩ := S5.out.facts; obtain ⟨⟨⟨c0, f0⟩, ⟨c1, f1⟩, ⟨c2, f2⟩, c3, f3⟩, ⟨d0, g0⟩, ⟨d1, g1⟩, ⟨d2, g2⟩, d3, g3⟩ := S5.out.zeros; clear bb)) | (go_at_call 44; ((with_reducible refine (CTH.out _).mono ?_); rintro e W5 ⟨rfl, bb⟩; have S6 := Lib.hid (S5.out.below bb); clear a0 a1 a2 a3 b0 b1 b2 b3 c0 c1 c2 c3 d0 d1 d2 d3 f0 f1 f2 f3 g0 g1 g2 g3; obtain ⟨⟨a0, a1, a2, a3⟩, b0, b1, b2, b3⟩ := S6.out.facts; obtain ⟨⟨⟨c0, f0⟩, ⟨c1, f1⟩, ⟨c2, f2⟩, c3, f3⟩, ⟨d0, g0⟩, ⟨d1, g1⟩, ⟨d2, g2⟩, d3, g3⟩ := S6.out.zeros; clear bb)))
    refine post_gen fun W9 hW9 => ?_
    have hr' := S6.out.res9 rfl (.inl hW9)
    clear hW9
    obtain ⟨⟨z0, z1, z2, z3⟩, y0, y1, y2, y3⟩ := kk2 hr'.1 hr'.2.1
    clear a0 a1 a2 a3 b0 b1 b2 b3 c0 c1 c2 c3 d0 d1 d2 d3 f0 f1 f2 f3 g0 g1 g2 g3
    refine bodyPost_ret (v := .tuple #[.agg #[.int .i64 0, .int .i64 0, .string ⟨#[]⟩, .slice none 0 0], .agg #[.int .i64 0, .int .i64 0, .string ⟨#[]⟩, .slice none 0 0], .int .i64 100]) (by simp [results, Try.results41, go_sem, z0, z1, z2, z3, y0, y1, y2, y3]; try rfl) rfl ?_
    unfold RetSplit
    rw [split_bad (by rw [HH.out]; exact E9.out)]
    exact ⟨none, 0, none, 0, rfl, .leaf rfl, .leaf rfl, hr'.2.2⟩
  · have E9 := Lib.hid e9
    rw [e1] at CNH
    rw [e2] at CTH
    rw [e3] at C1H
    clear e9 e1 e2 e3
    go_wp2_with (first | (go_at_call 42; ((with_reducible refine (CNH.out _).mono ?_); rintro e W5 ⟨rfl, bb⟩; have S5 := Lib.hid (S1.out.below bb); clear a0 a1 a2 a3 b0 b1 b2 b3 c0 c1 c2 c3 d0 d1 d2 d3 f0 f1 f2 f3 g0 g1 g2 g3; obtain ⟨⟨a0, a1, a2, a3⟩, b0, b1, b2, b3⟩ := S5.out.facts; obtain ⟨⟨⟨c0, f0⟩, ⟨c1, f1⟩, ⟨c2, f2⟩, c3, f3⟩, ⟨d0, g0⟩, ⟨d1, g1⟩, ⟨d2, g2⟩, d3, g3⟩ := S5.out.zeros; clear bb)) | (go_at_call 44; ((with_reducible refine (CTH.out _).mono ?_); rintro e W5 ⟨rfl, bb⟩; have S6 := Lib.hid (S5.out.below bb); clear a0 a1 a2 a3 b0 b1 b2 b3 c0 c1 c2 c3 d0 d1 d2 d3 f0 f1 f2 f3 g0 g1 g2 g3; obtain ⟨⟨a0, a1, a2, a3⟩, b0, b1, b2, b3⟩ := S6.out.facts; obtain ⟨⟨⟨c0, f0⟩, ⟨c1, f1⟩, ⟨c2, f2⟩, c3, f3⟩, ⟨d0, g0⟩, ⟨d1, g1⟩, ⟨d2, g2⟩, d3, g3⟩ := S6.out.zeros; clear bb)) | (go_at_call 84; ((with_reducible refine (C1H.out _).mono ?_); rintro e W5 ⟨rfl, bb⟩; have S7 := Lib.hid (S6.out.below bb); clear a0 a1 a2 a3 b0 b1 b2 b3 c0 c1 c2 c3 d0 d1 d2 d3 f0 f1 f2 f3 g0 g1 g2 g3; obtain ⟨⟨a0, a1, a2, a3⟩, b0, b1, b2, b3⟩ := S7.out.facts; obtain ⟨⟨⟨c0, f0⟩, ⟨c1, f1⟩, ⟨c2, f2⟩, c3, f3⟩, ⟨d0, g0⟩, ⟨d1, g1⟩, ⟨d2, g2⟩, d3, g3⟩ := S7.out.zeros; clear bb)))
    refine post_gen fun W9 hW9 => ?_
    have hr' := S7.out.res9 rfl (.inl hW9)
    clear hW9
    obtain ⟨⟨z0, z1, z2, z3⟩, y0, y1, y2, y3⟩ := kk2 hr'.1 hr'.2.1
    clear a0 a1 a2 a3 b0 b1 b2 b3 c0 c1 c2 c3 d0 d1 d2 d3 f0 f1 f2 f3 g0 g1 g2 g3
    refine bodyPost_ret (v := .tuple #[.agg #[.int .i64 0, .int .i64 0, .string ⟨#[]⟩, .slice none 0 0], .agg #[.int .i64 0, .int .i64 0, .string ⟨#[]⟩, .slice none 0 0], .int .i64 100]) (by simp [results, Try.results41, go_sem, z0, z1, z2, z3, y0, y1, y2, y3]; try rfl) rfl ?_
    unfold RetSplit
    rw [split_bad (by rw [HH.out]; exact E9.out)]
    exact ⟨none, 0, none, 0, rfl, .leaf rfl, .leaf rfl, hr'.2.2⟩
  · have E9 := Lib.hid e9
    rw [e1] at CNH
    rw [e2] at CTH
    rw [e3] at C1H
    rw [e4] at C2H
    clear e9 e1 e2 e3 e4
    go_wp2_with (first | (go_at_call 42; ((with_reducible refine (CNH.out _).mono ?_); rintro e W5 ⟨rfl, bb⟩; have S5 := Lib.hid (S1.out.below bb); clear a0 a1 a2 a3 b0 b1 b2 b3 c0 c1 c2 c3 d0 d1 d2 d3 f0 f1 f2 f3 g0 g1 g2 g3; obtain ⟨⟨a0, a1, a2, a3⟩, b0, b1, b2, b3⟩ := S5.out.facts; obtain ⟨⟨⟨c0, f0⟩, ⟨c1, f1⟩, ⟨c2, f2⟩, c3, f3⟩, ⟨d0, g0⟩, ⟨d1, g1⟩, ⟨d2, g2⟩, d3, g3⟩ := S5.out.zeros; clear bb)) | (go_at_call 44; ((with_reducible refine (CTH.out _).mono ?_); rintro e W5 ⟨rfl, bb⟩; have S6 := Lib.hid (S5.out.below bb); clear a0 a1 a2 a3 b0 b1 b2 b3 c0 c1 c2 c3 d0 d1 d2 d3 f0 f1 f2 f3 g0 g1 g2 g3; obtain ⟨⟨a0, a1, a2, a3⟩, b0, b1, b2, b3⟩ := S6.out.facts; obtain ⟨⟨⟨c0, f0⟩, ⟨c1, f1⟩, ⟨c2, f2⟩, c3, f3⟩, ⟨d0, g0⟩, ⟨d1, g1⟩, ⟨d2, g2⟩, d3, g3⟩ := S6.out.zeros; clear bb)) | (go_at_call 84; ((with_reducible refine (C1H.out _).mono ?_); rintro e W5 ⟨rfl, bb⟩; have S7 := Lib.hid (S6.out.below bb); clear a0 a1 a2 a3 b0 b1 b2 b3 c0 c1 c2 c3 d0 d1 d2 d3 f0 f1 f2 f3 g0 g1 g2 g3; obtain ⟨⟨a0, a1, a2, a3⟩, b0, b1, b2, b3⟩ := S7.out.facts; obtain ⟨⟨⟨c0, f0⟩, ⟨c1, f1⟩, ⟨c2, f2⟩, c3, f3⟩, ⟨d0, g0⟩, ⟨d1, g1⟩, ⟨d2, g2⟩, d3, g3⟩ := S7.out.zeros; clear bb)) | (go_at_call 84; ((with_reducible refine (C2H.out _).mono ?_); rintro e W5 ⟨rfl, bb⟩; have S8 := Lib.hid (S7.out.below bb); clear a0 a1 a2 a3 b0 b1 b2 b3 c0 c1 c2 c3 d0 d1 d2 d3 f0 f1 f2 f3 g0 g1 g2 g3; obtain ⟨⟨a0, a1, a2, a3⟩, b0, b1, b2, b3⟩ := S8.out.facts; obtain ⟨⟨⟨c0, f0⟩, ⟨c1, f1⟩, ⟨c2, f2⟩, c3, f3⟩, ⟨d0, g0⟩, ⟨d1, g1⟩, ⟨d2, g2⟩, d3, g3⟩ := S8.out.zeros; clear bb)))
    refine post_gen fun W9 hW9 => ?_
    have hr' := S8.out.res9 rfl (.inl hW9)
    clear hW9
    obtain ⟨⟨z0, z1, z2, z3⟩, y0, y1, y2, y3⟩ := kk2 hr'.1 hr'.2.1
    clear a0 a1 a2 a3 b0 b1 b2 b3 c0 c1 c2 c3 d0 d1 d2 d3 f0 f1 f2 f3 g0 g1 g2 g3
    refine bodyPost_ret (v := .tuple #[.agg #[.int .i64 0, .int .i64 0, .string ⟨#[]⟩, .slice none 0 0], .agg #[.int .i64 0, .int .i64 0, .string ⟨#[]⟩, .slice none 0 0], .int .i64 100]) (by simp [results, Try.results41, go_sem, z0, z1, z2, z3, y0, y1, y2, y3]; try rfl) rfl ?_
    unfold RetSplit
    rw [split_bad (by rw [HH.out]; exact E9.out)]
    exact ⟨none, 0, none, 0, rfl, .leaf rfl, .leaf rfl, hr'.2.2⟩
  · have E9 := Lib.hid e9
    rw [e1] at CNH
    rw [e2] at CTH
    rw [e3] at C1H
    rw [e4] at C2H
    clear e9 e1 e2 e3 e4
    go_upto_region 9 with (first | (go_at_call 42; ((with_reducible refine (CNH.out _).mono ?_); rintro e W5 ⟨rfl, bb⟩; have S5 := Lib.hid (S1.out.below bb); clear a0 a1 a2 a3 b0 b1 b2 b3 c0 c1 c2 c3 d0 d1 d2 d3 f0 f1 f2 f3 g0 g1 g2 g3; obtain ⟨⟨a0, a1, a2, a3⟩, b0, b1, b2, b3⟩ := S5.out.facts; obtain ⟨⟨⟨c0, f0⟩, ⟨c1, f1⟩, ⟨c2, f2⟩, c3, f3⟩, ⟨d0, g0⟩, ⟨d1, g1⟩, ⟨d2, g2⟩, d3, g3⟩ := S5.out.zeros; clear bb)) | (go_at_call 44; ((with_reducible refine (CTH.out _).mono ?_); rintro e W5 ⟨rfl, bb⟩; have S6 := Lib.hid (S5.out.below bb); clear a0 a1 a2 a3 b0 b1 b2 b3 c0 c1 c2 c3 d0 d1 d2 d3 f0 f1 f2 f3 g0 g1 g2 g3; obtain ⟨⟨a0, a1, a2, a3⟩, b0, b1, b2, b3⟩ := S6.out.facts; obtain ⟨⟨⟨c0, f0⟩, ⟨c1, f1⟩, ⟨c2, f2⟩, c3, f3⟩, ⟨d0, g0⟩, ⟨d1, g1⟩, ⟨d2, g2⟩, d3, g3⟩ := S6.out.zeros; clear bb)) | (go_at_call 84; ((with_reducible refine (C1H.out _).mono ?_); rintro e W5 ⟨rfl, bb⟩; have S7 := Lib.hid (S6.out.below bb); clear a0 a1 a2 a3 b0 b1 b2 b3 c0 c1 c2 c3 d0 d1 d2 d3 f0 f1 f2 f3 g0 g1 g2 g3; obtain ⟨⟨a0, a1, a2, a3⟩, b0, b1, b2, b3⟩ := S7.out.facts; obtain ⟨⟨⟨c0, f0⟩, ⟨c1, f1⟩, ⟨c2, f2⟩, c3, f3⟩, ⟨d0, g0⟩, ⟨d1, g1⟩, ⟨d2, g2⟩, d3, g3⟩ := S7.out.zeros; clear bb)) | (go_at_call 84; ((with_reducible refine (C2H.out _).mono ?_); rintro e W5 ⟨rfl, bb⟩; have S8 := Lib.hid (S7.out.below bb); clear a0 a1 a2 a3 b0 b1 b2 b3 c0 c1 c2 c3 d0 d1 d2 d3 f0 f1 f2 f3 g0 g1 g2 g3; obtain ⟨⟨a0, a1, a2, a3⟩, b0, b1, b2, b3⟩ := S8.out.facts; obtain ⟨⟨⟨c0, f0⟩, ⟨c1, f1⟩, ⟨c2, f2⟩, c3, f3⟩, ⟨d0, g0⟩, ⟨d1, g1⟩, ⟨d2, g2⟩, d3, g3⟩ := S8.out.zeros; clear bb)))
    go_upto_region 12 with (first | (go_at_call 36; ((with_reducible refine (CGT.out _ S8.out.bel).mono ?_); rintro e W9 ⟨xa, xn, xc, rfl, bb⟩; have S9 := Lib.hid (S8.out.below bb); clear a0 a1 a2 a3 b0 b1 b2 b3 c0 c1 c2 c3 d0 d1 d2 d3 f0 f1 f2 f3 g0 g1 g2 g3; obtain ⟨⟨a0, a1, a2, a3⟩, b0, b1, b2, b3⟩ := S9.out.facts; obtain ⟨⟨⟨c0, f0⟩, ⟨c1, f1⟩, ⟨c2, f2⟩, c3, f3⟩, ⟨d0, g0⟩, ⟨d1, g1⟩, ⟨d2, g2⟩, d3, g3⟩ := S9.out.zeros; clear bb)))
    go_region
    all_goals
      go_wp2
      refine post_gen fun W9 hW9 => ?_
      have hr' := S9.out.res9 rfl (.inr hW9)
      clear hW9
      obtain ⟨⟨z0, z1, z2, z3⟩, y0, y1, y2, y3⟩ := kk2 hr'.1 hr'.2.1
      clear a0 a1 a2 a3 b0 b1 b2 b3 c0 c1 c2 c3 d0 d1 d2 d3 f0 f1 f2 f3 g0 g1 g2 g3
      refine bodyPost_ret (v := .tuple #[.agg #[.int .i64 t.kind, .int .i64 t.num, .string t.name, .slice ao t.args.length cc], .agg #[.int .i64 trueT.kind, .int .i64 trueT.num, .string trueT.name, .slice none 0 0], .int .i64 0]) (by simp [results, Try.results41, go_sem, z0, z1, z2, z3, y0, y1, y2, y3]; try rfl) rfl ?_
      unfold RetSplit
      rw [split_good (by rw [HH.out]; exact E9.out) (by rw [HB.out]; exact rfl), HH.out, HB.out]
      exact ⟨_, _, none, 0, rfl, later_of S9.out.th hr'.2.2, later_of S9.out.tb hr'.2.2, hr'.2.2⟩

set_option maxRecDepth 100000 in
set_option maxHeartbeats 6400000 in
theorem rsplit_clause (t : Tm) (ao : Option Addr) (cc : Nat) (w : World) (ht' : TmAt (fun b => b < w.heap.size) w t (.slice ao t.args.length cc)) (hok : t.ok) (hn : t.size ≤ 100000) (hc : t.is [58, 45] 2 = true) :
    Calls Try.prog 41 #[.agg #[.int .i64 t.kind, .int .i64 t.num, .string t.name, .slice ao t.args.length cc]] w (RetSplit t w) := by
  obtain ⟨x, y, hxy⟩ : ∃ x y, t.args = [x, y] := by
    have hl : t.args.length = 2 := by simp only [Tm.is, Bool.and_eq_true] at hc; exact of_decide_eq_true hc.2
    match h : t.args, hl with
    | [x, y], _ => exact ⟨x, y, rfl⟩
  have hk : t.kind = 4 := by
    by_cases h : t.kind = 4
    · exact h
    · have := Tm.args_kind h; rw [hxy] at this; simp at this
  have hl2 : t.args.length = 2 := by rw [hxy]; rfl
  have hh : headT t = x := by simp [headT, hc, nthT, hxy]
  have hb : bodyT t = y := by simp [bodyT, hc, nthT, hxy]
  have hoy : y.ok := Tm.ok_args hok y (by rw [hxy]; simp)
  have hsy : y.size ≤ 100000 := by have := Tm.args_size (t := t) (u := y) (by rw [hxy]; simp); omega
  obtain ⟨b1, off, a0', hao, hpb, hcx, htx⟩ := (show ∃ b off a, ao = some ⟨b, off, none⟩ ∧ b < w.heap.size ∧ CellsT w b (off + 0 * 4) x a ∧ TmAt (fun b => b < w.heap.size) w x a by
    obtain ⟨b, off, a, h1, _, h2, h3, h4⟩ := ht'.arg 0 (by omega)
    have e : t.args[0] = x := by simp [hxy]
    rw [e] at h3 h4
    exact ⟨b, off, a, h1, h2, h3, h4⟩)
  obtain ⟨b', off', a1', hao', hcy, hty⟩ := (show ∃ b off a, ao = some ⟨b, off, none⟩ ∧ CellsT w b (off + 1 * 4) y a ∧ TmAt (fun b => b < w.heap.size) w y a by
    obtain ⟨b, off, a, h1, _, h2, h3, h4⟩ := ht'.arg 1 (by omega)
    have e : t.args[1] = y := by simp [hxy]
    rw [e] at h3 h4
    exact ⟨b, off, a, h1, h3, h4⟩)
  subst hao
  simp only [Option.some.injEq, Addr.mk.injEq, and_true] at hao'
  obtain ⟨rfl, rfl⟩ := hao'
  obtain ⟨p0, q0, rfl, _⟩ := htx.shape
  obtain ⟨p1, q1, rfl, _⟩ := hty.shape
  simp only [Nat.zero_mul, Nat.add_zero, Nat.one_mul] at hcx hcy
  have S0 := Lib.hid (SB.start w (.cells #[.int .i64 t.kind, .int .i64 t.num, .string t.name, .slice (some ⟨b1, off, none⟩) t.args.length cc] 24) t _ 24 ht')
  have X0 := Lib.hid (start_box w t (.slice (some ⟨b1, off, none⟩) t.args.length cc) 24 (.cells #[.int .i64 0, .int .i64 0, .string ⟨#[]⟩, .slice none 0 0] 24) (.cells #[.int .i64 0, .int .i64 0, .string ⟨#[]⟩, .slice none 0 0] 24) (.cells #[.int .i64 t.kind, .int .i64 t.num, .string t.name, .slice (some ⟨b1, off, none⟩) t.args.length cc] 24) (.cells #[.int .i64 3, .int .i64 0, .string ⟨#[116, 114, 117, 101]⟩, .slice none 0 0] 24))
  have CI := Lib.hid (fun W => isBar2_c t (some ⟨b1, off, none⟩) cc W)
  rw [hc] at CI
  have CGTrue : Hid (y.callable = true → ∀ W, Below w.heap.size w W → Calls Try.prog 36 #[.agg #[.int .i64 y.kind, .int .i64 y.num, .string y.name, .slice p1 y.args.length q1]] W fun e w' => ∃ a n c, e = .returned (.tuple #[.slice a n c, .int .i64 0]) ∧ Below W.heap.size W w') := fun hcl W hW => (rgoals_c y _ W (later_of hty hW) hoy hsy).mono fun e w' h => by
    have h' : RetRGoals y W e w' := h
    simp only [RetRGoals, hcl, if_true] at h'
    obtain ⟨a, c, h1, _, h4⟩ := h'
    exact ⟨a, _, c, h1, h4⟩
  have CGFalse : Hid (y.callable = false → ∀ W, Below w.heap.size w W → Calls Try.prog 36 #[.agg #[.int .i64 y.kind, .int .i64 y.num, .string y.name, .slice p1 y.args.length q1]] W fun e w' => e = .returned (.tuple #[.slice none 0 0, .int .i64 101]) ∧ Below W.heap.size W w') := fun hcl W hW => (rgoals_c y _ W (later_of hty hW) hoy hsy).mono fun e w' h => by
    have h' : RetRGoals y W e w' := h
    simp only [RetRGoals, hcl, Bool.false_eq_true, if_false] at h'
    exact h'
  have HTX := Lib.hid htx
  have HTY := Lib.hid hty
  have HXC := Lib.hid hcx
  have HYC := Lib.hid hcy
  have HH := Lib.hid hh
  have HB := Lib.hid hb
  rw [hl2] at S0 X0 CI ⊢
  rw [hk] at S0 X0 CI ⊢
  clear hc hh hb ht' hoy hsy htx hty hcx hcy hxy hok hn
  go_enter Try.func41, Try.ntmps41
  go_upto_region 4 with (first
    | (go_at_call 84; ((with_reducible refine (CI.out _).mono ?_); rintro e W1 ⟨rfl, bb⟩; have S1 := Lib.hid (S0.out.below bb); have X1 := Lib.hid (X0.out.block (bb.block _ (X0.out.lt (by simp [cells4])))); clear bb)))
  obtain ⟨w0, w1, w2, w3⟩ := kk4' X1.out
  have kx := HXC.out.block (S1.out.bel.block _ hpb)
  have ky := HYC.out.block (S1.out.bel.block _ hpb)
  obtain ⟨x0, x1, x2, x3⟩ := kx
  obtain ⟨y0, y1, y2, y3⟩ := ky
  obtain ⟨⟨a0, a1, a2, a3⟩, b0, b1, b2, b3⟩ := S1.out.facts
  obtain ⟨⟨⟨c0, f0⟩, ⟨c1, f1⟩, ⟨c2, f2⟩, c3, f3⟩, ⟨d0, g0⟩, ⟨d1, g1⟩, ⟨d2, g2⟩, d3, g3⟩ := S1.out.zeros
  obtain ⟨⟨u0, u1, u2, u3⟩, v0, v1, v2, v3⟩ := S1.out.frees
  clear S0 CI X0
  go_upto_region 6 with (fail)
  refine wp_gen fun W4 hW4 => ?_
  have S1 := Lib.hid (S1.out.store9 HTX.out HTY.out rfl (.inl hW4))
  clear hW4 w0 w1 w2 w3 x0 x1 x2 x3 y0 y1 y2 y3 u0 u1 u2 u3 v0 v1 v2 v3 a0 a1 a2 a3 b0 b1 b2 b3 c0 c1 c2 c3 d0 d1 d2 d3 f0 f1 f2 f3 g0 g1 g2 g3
  obtain ⟨⟨a0, a1, a2, a3⟩, b0, b1, b2, b3⟩ := S1.out.facts
  obtain ⟨⟨⟨c0, f0⟩, ⟨c1, f1⟩, ⟨c2, f2⟩, c3, f3⟩, ⟨d0, g0⟩, ⟨d1, g1⟩, ⟨d2, g2⟩, d3, g3⟩ := S1.out.zeros
  have CNH := Lib.hid (fun W => refName_c x p0 q0 W)
  have CTH := Lib.hid (fun W => refControl_c x p0 q0 W)
  have C1H := Lib.hid (fun W => isBar1_c x p0 q0 W)
  have C2H := Lib.hid (fun W => isBar2_c x p0 q0 W)
  rcases badR_cases x with ⟨e1, e9⟩ | ⟨e1, e2, e9⟩ | ⟨e1, e2, e3, e9⟩ | ⟨e1, e2, e3, e4, e9⟩ | ⟨e1, e2, e3, e4, e9⟩
  · have E9 := Lib.hid e9
    rw [e1] at CNH
    clear e9 e1
    go_wp2_with (first | (go_at_call 42; ((with_reducible refine (CNH.out _).mono ?_); rintro e W5 ⟨rfl, bb⟩; have S5 := Lib.hid (S1.out.below bb); clear a0 a1 a2 a3 b0 b1 b2 b3 c0 c1 c2 c3 d0 d1 d2 d3 f0 f1 f2 f3 g0 g1 g2 g3; obtain ⟨⟨a0, a1, a2, a3⟩, b0, b1, b2, b3⟩ := S5.out.facts; obtain ⟨⟨⟨c0, f0⟩, ⟨c1, f1⟩, ⟨c2, f2⟩, c3, f3⟩, ⟨d0, g0⟩, ⟨d1, g1⟩, ⟨d2, g2⟩, d3, g3⟩ := S5.out.zeros; clear bb)))
    refine post_gen fun W9 hW9 => ?_
    have hr' := S5.out.res9 rfl (.inl hW9)
    clear hW9
    obtain ⟨⟨z0, z1, z2, z3⟩, y0, y1, y2, y3⟩ := kk2 hr'.1 hr'.2.1
    clear a0 a1 a2 a3 b0 b1 b2 b3 c0 c1 c2 c3 d0 d1 d2 d3 f0 f1 f2 f3 g0 g1 g2 g3
    refine bodyPost_ret (v := .tuple #[.agg #[.int .i64 0, .int .i64 0, .string ⟨#[]⟩, .slice none 0 0], .agg #[.int .i64 0, .int .i64 0, .string ⟨#[]⟩, .slice none 0 0], .int .i64 100]) (by simp [results, Try.results41, go_sem, z0, z1, z2, z3, y0, y1, y2, y3]; try rfl) rfl ?_
    unfold RetSplit
    rw [split_bad (by rw [HH.out]; exact E9.out)]
    exact ⟨none, 0, none, 0, rfl, .leaf rfl, .leaf rfl, hr'.2.2⟩
  · have E9 := Lib.hid e9
    rw [e1] at CNH
    rw [e2] at CTH
    clear e9 e1 e2
    go_wp2_with (first | (go_at_call 42; ((with_reducible refine (CNH.out _).mono ?_); rintro e W5 ⟨rfl, bb⟩; have S5 := Lib.hid (S1.out.below bb); clear a0 a1 a2 a3 b0 b1 b2 b3 c0 c1 c2 c3 d0 d1 d2 d3 f0 f1 f2 f3 g0 g1 g2 g3; obtain ⟨⟨a0, a1, a2, a3⟩, b0, b1, b2, b3⟩ := S5.out.facts; obtain ⟨⟨⟨c0, f0⟩, ⟨c1, f1⟩, ⟨c2, f2⟩, c3, f3⟩, ⟨d0, g0⟩, ⟨d1, g1⟩, ⟨d2, g2⟩, d3, g3⟩ := S5.out.zeros; clear bb)) | (go_at_call 44; ((with_reducible refine (CTH.out _).mono ?_); rintro e W5 ⟨rfl, bb⟩; have S6 := Lib.hid (S5.out.below bb); clear a0 a1 a2 a3 b0 b1 b2 b3 c0 c1 c2 c3 d0 d1 d2 d3 f0 f1 f2 f3 g0 g1 g2 g3; obtain ⟨⟨a0, a1, a2, a3⟩, b0, b1, b2, b3⟩ := S6.out.facts; obtain ⟨⟨⟨c0, f0⟩, ⟨c1, f1⟩, ⟨c2, f2⟩, c3, f3⟩, ⟨d0, g0⟩, ⟨d1, g1⟩, ⟨d2, g2⟩, d3, g3⟩ := S6.out.zeros; clear bb)))
    refine post_gen fun W9 hW9 => ?_
    have hr' := S6.out.res9 rfl (.inl hW9)
    clear hW9
    obtain ⟨⟨z0, z1, z2, z3⟩, y0, y1, y2, y3⟩ := kk2 hr'.1 hr'.2.1
    clear a0 a1 a2 a3 b0 b1 b2 b3 c0 c1 c2 c3 d0 d1 d2 d3 f0 f1 f2 f3 g0 g1 g2 g3
    refine bodyPost_ret (v := .tuple #[.agg #[.int .i64 0, .int .i64 0, .string ⟨#[]⟩, .slice none 0 0], .agg #[.int .i64 0, .int .i64 0, .string ⟨#[]⟩, .slice none 0 0], .int .i64 100]) (by simp [results, Try.results41, go_sem, z0, z1, z2, z3, y0, y1, y2, y3]; try rfl) rfl ?_
    unfold RetSplit
    rw [split_bad (by rw [HH.out]; exact E9.out)]
    exact ⟨none, 0, none, 0, rfl, .leaf rfl, .leaf rfl, hr'.2.2⟩
  · have E9 := Lib.hid e9
    rw [e1] at CNH
    rw [e2] at CTH
    rw [e3] at C1H
    clear e9 e1 e2 e3
    go_wp2_with (first | (go_at_call 42; ((with_reducible refine (CNH.out _).mono ?_); rintro e W5 ⟨rfl, bb⟩; have S5 := Lib.hid (S1.out.below bb); clear a0 a1 a2 a3 b0 b1 b2 b3 c0 c1 c2 c3 d0 d1 d2 d3 f0 f1 f2 f3 g0 g1 g2 g3; obtain ⟨⟨a0, a1, a2, a3⟩, b0, b1, b2, b3⟩ := S5.out.facts; obtain ⟨⟨⟨c0, f0⟩, ⟨c1, f1⟩, ⟨c2, f2⟩, c3, f3⟩, ⟨d0, g0⟩, ⟨d1, g1⟩, ⟨d2, g2⟩, d3, g3⟩ := S5.out.zeros; clear bb)) | (go_at_call 44; ((with_reducible refine (CTH.out _).mono ?_); rintro e W5 ⟨rfl, bb⟩; have S6 := Lib.hid (S5.out.below bb); clear a0 a1 a2 a3 b0 b1 b2 b3 c0 c1 c2 c3 d0 d1 d2 d3 f0 f1 f2 f3 g0 g1 g2 g3; obtain ⟨⟨a0, a1, a2, a3⟩, b0, b1, b2, b3⟩ := S6.out.facts; obtain ⟨⟨⟨c0, f0⟩, ⟨c1, f1⟩, ⟨c2, f2⟩, c3, f3⟩, ⟨d0, g0⟩, ⟨d1, g1⟩, ⟨d2, g2⟩, d3, g3⟩ := S6.out.zeros; clear bb)) | (go_at_call 84; ((with_reducible refine (C1H.out _).mono ?_); rintro e W5 ⟨rfl, bb⟩; have S7 := Lib.hid (S6.out.below bb); clear a0 a1 a2 a3 b0 b1 b2 b3 c0 c1 c2 c3 d0 d1 d2 d3 f0 f1 f2 f3 g0 g1 g2 g3; obtain ⟨⟨a0, a1, a2, a3⟩, b0, b1, b2, b3⟩ := S7.out.facts; obtain ⟨⟨⟨c0, f0⟩, ⟨c1, f1⟩, ⟨c2, f2⟩, c3, f3⟩, ⟨d0, g0⟩, ⟨d1, g1⟩, ⟨d2, g2⟩, d3, g3⟩ := S7.out.zeros; clear bb)))
    refine post_gen fun W9 hW9 => ?_
    have hr' := S7.out.res9 rfl (.inl hW9)
    clear hW9
    obtain ⟨⟨z0, z1, z2, z3⟩, y0, y1, y2, y3⟩ := kk2 hr'.1 hr'.2.1
    clear a0 a1 a2 a3 b0 b1 b2 b3 c0 c1 c2 c3 d0 d1 d2 d3 f0 f1 f2 f3 g0 g1 g2 g3
    refine bodyPost_ret (v := .tuple #[.agg #[.int .i64 0, .int .i64 0, .string ⟨#[]⟩, .slice none 0 0], .agg #[.int .i64 0, .int .i64 0, .string ⟨#[]⟩, .slice none 0 0], .int .i64 100]) (by simp [results, Try.results41, go_sem, z0, z1, z2, z3, y0, y1, y2, y3]; try rfl) rfl ?_
    unfold RetSplit
    rw [split_bad (by rw [HH.out]; exact E9.out)]
    exact ⟨none, 0, none, 0, rfl, .leaf rfl, .leaf rfl, hr'.2.2⟩
  · have E9 := Lib.hid e9
    rw [e1] at CNH
    rw [e2] at CTH
    rw [e3] at C1H
    rw [e4] at C2H
    clear e9 e1 e2 e3 e4
    go_wp2_with (first | (go_at_call 42; ((with_reducible refine (CNH.out _).mono ?_); rintro e W5 ⟨rfl, bb⟩; have S5 := Lib.hid (S1.out.below bb); clear a0 a1 a2 a3 b0 b1 b2 b3 c0 c1 c2 c3 d0 d1 d2 d3 f0 f1 f2 f3 g0 g1 g2 g3; obtain ⟨⟨a0, a1, a2, a3⟩, b0, b1, b2, b3⟩ := S5.out.facts; obtain ⟨⟨⟨c0, f0⟩, ⟨c1, f1⟩, ⟨c2, f2⟩, c3, f3⟩, ⟨d0, g0⟩, ⟨d1, g1⟩, ⟨d2, g2⟩, d3, g3⟩ := S5.out.zeros; clear bb)) | (go_at_call 44; ((with_reducible refine (CTH.out _).mono ?_); rintro e W5 ⟨rfl, bb⟩; have S6 := Lib.hid (S5.out.below bb); clear a0 a1 a2 a3 b0 b1 b2 b3 c0 c1 c2 c3 d0 d1 d2 d3 f0 f1 f2 f3 g0 g1 g2 g3; obtain ⟨⟨a0, a1, a2, a3⟩, b0, b1, b2, b3⟩ := S6.out.facts; obtain ⟨⟨⟨c0, f0⟩, ⟨c1, f1⟩, ⟨c2, f2⟩, c3, f3⟩, ⟨d0, g0⟩, ⟨d1, g1⟩, ⟨d2, g2⟩, d3, g3⟩ := S6.out.zeros; clear bb)) | (go_at_call 84; ((with_reducible refine (C1H.out _).mono ?_); rintro e W5 ⟨rfl, bb⟩; have S7 := Lib.hid (S6.out.below bb); clear a0 a1 a2 a3 b0 b1 b2 b3 c0 c1 c2 c3 d0 d1 d2 d3 f0 f1 f2 f3 g0 g1 g2 g3; obtain ⟨⟨a0, a1, a2, a3⟩, b0, b1, b2, b3⟩ := S7.out.facts; obtain ⟨⟨⟨c0, f0⟩, ⟨c1, f1⟩, ⟨c2, f2⟩, c3, f3⟩, ⟨d0, g0⟩, ⟨d1, g1⟩, ⟨d2, g2⟩, d3, g3⟩ := S7.out.zeros; clear bb)) | (go_at_call 84; ((with_reducible refine (C2H.out _).mono ?_); rintro e W5 ⟨rfl, bb⟩; have S8 := Lib.hid (S7.out.below bb); clear a0 a1 a2 a3 b0 b1 b2 b3 c0 c1 c2 c3 d0 d1 d2 d3 f0 f1 f2 f3 g0 g1 g2 g3; obtain ⟨⟨a0, a1, a2, a3⟩, b0, b1, b2, b3⟩ := S8.out.facts; obtain ⟨⟨⟨c0, f0⟩, ⟨c1, f1⟩, ⟨c2, f2⟩, c3, f3⟩, ⟨d0, g0⟩, ⟨d1, g1⟩, ⟨d2, g2⟩, d3, g3⟩ := S8.out.zeros; clear bb)))
    refine post_gen fun W9 hW9 => ?_
    have hr' := S8.out.res9 rfl (.inl hW9)
    clear hW9
    obtain ⟨⟨z0, z1, z2, z3⟩, y0, y1, y2, y3⟩ := kk2 hr'.1 hr'.2.1
    clear a0 a1 a2 a3 b0 b1 b2 b3 c0 c1 c2 c3 d0 d1 d2 d3 f0 f1 f2 f3 g0 g1 g2 g3
    refine bodyPost_ret (v := .tuple #[.agg #[.int .i64 0, .int .i64 0, .string ⟨#[]⟩, .slice none 0 0], .agg #[.int .i64 0, .int .i64 0, .string ⟨#[]⟩, .slice none 0 0], .int .i64 100]) (by simp [results, Try.results41, go_sem, z0, z1, z2, z3, y0, y1, y2, y3]; try rfl) rfl ?_
    unfold RetSplit
    rw [split_bad (by rw [HH.out]; exact E9.out)]
    exact ⟨none, 0, none, 0, rfl, .leaf rfl, .leaf rfl, hr'.2.2⟩
  · have E9 := Lib.hid e9
    rw [e1] at CNH
    rw [e2] at CTH
    rw [e3] at C1H
    rw [e4] at C2H
    clear e9 e1 e2 e3 e4
    go_upto_region 9 with (first | (go_at_call 42; ((with_reducible refine (CNH.out _).mono ?_); rintro e W5 ⟨rfl, bb⟩; have S5 := Lib.hid (S1.out.below bb); clear a0 a1 a2 a3 b0 b1 b2 b3 c0 c1 c2 c3 d0 d1 d2 d3 f0 f1 f2 f3 g0 g1 g2 g3; obtain ⟨⟨a0, a1, a2, a3⟩, b0, b1, b2, b3⟩ := S5.out.facts; obtain ⟨⟨⟨c0, f0⟩, ⟨c1, f1⟩, ⟨c2, f2⟩, c3, f3⟩, ⟨d0, g0⟩, ⟨d1, g1⟩, ⟨d2, g2⟩, d3, g3⟩ := S5.out.zeros; clear bb)) | (go_at_call 44; ((with_reducible refine (CTH.out _).mono ?_); rintro e W5 ⟨rfl, bb⟩; have S6 := Lib.hid (S5.out.below bb); clear a0 a1 a2 a3 b0 b1 b2 b3 c0 c1 c2 c3 d0 d1 d2 d3 f0 f1 f2 f3 g0 g1 g2 g3; obtain ⟨⟨a0, a1, a2, a3⟩, b0, b1, b2, b3⟩ := S6.out.facts; obtain ⟨⟨⟨c0, f0⟩, ⟨c1, f1⟩, ⟨c2, f2⟩, c3, f3⟩, ⟨d0, g0⟩, ⟨d1, g1⟩, ⟨d2, g2⟩, d3, g3⟩ := S6.out.zeros; clear bb)) | (go_at_call 84; ((with_reducible refine (C1H.out _).mono ?_); rintro e W5 ⟨rfl, bb⟩; have S7 := Lib.hid (S6.out.below bb); clear a0 a1 a2 a3 b0 b1 b2 b3 c0 c1 c2 c3 d0 d1 d2 d3 f0 f1 f2 f3 g0 g1 g2 g3; obtain ⟨⟨a0, a1, a2, a3⟩, b0, b1, b2, b3⟩ := S7.out.facts; obtain ⟨⟨⟨c0, f0⟩, ⟨c1, f1⟩, ⟨c2, f2⟩, c3, f3⟩, ⟨d0, g0⟩, ⟨d1, g1⟩, ⟨d2, g2⟩, d3, g3⟩ := S7.out.zeros; clear bb)) | (go_at_call 84; ((with_reducible refine (C2H.out _).mono ?_); rintro e W5 ⟨rfl, bb⟩; have S8 := Lib.hid (S7.out.below bb); clear a0 a1 a2 a3 b0 b1 b2 b3 c0 c1 c2 c3 d0 d1 d2 d3 f0 f1 f2 f3 g0 g1 g2 g3; obtain ⟨⟨a0, a1, a2, a3⟩, b0, b1, b2, b3⟩ := S8.out.facts; obtain ⟨⟨⟨c0, f0⟩, ⟨c1, f1⟩, ⟨c2, f2⟩, c3, f3⟩, ⟨d0, g0⟩, ⟨d1, g1⟩, ⟨d2, g2⟩, d3, g3⟩ := S8.out.zeros; clear bb)))
    cases hcl : y.callable with
    | true =>
      have HCL := Lib.hid hcl
      have CGT := Lib.hid (CGTrue.out hcl)
      clear hcl
      go_upto_region 12 with (first | (go_at_call 36; ((with_reducible refine (CGT.out _ S8.out.bel).mono ?_); rintro e W9 ⟨xa, xn, xc, rfl, bb⟩; have S9 := Lib.hid (S8.out.below bb); clear a0 a1 a2 a3 b0 b1 b2 b3 c0 c1 c2 c3 d0 d1 d2 d3 f0 f1 f2 f3 g0 g1 g2 g3; obtain ⟨⟨a0, a1, a2, a3⟩, b0, b1, b2, b3⟩ := S9.out.facts; obtain ⟨⟨⟨c0, f0⟩, ⟨c1, f1⟩, ⟨c2, f2⟩, c3, f3⟩, ⟨d0, g0⟩, ⟨d1, g1⟩, ⟨d2, g2⟩, d3, g3⟩ := S9.out.zeros; clear bb)))
      go_region
      all_goals
        go_wp2
        refine post_gen fun W9 hW9 => ?_
        have hr' := S9.out.res9 rfl (.inr hW9)
        clear hW9
        obtain ⟨⟨z0, z1, z2, z3⟩, y0, y1, y2, y3⟩ := kk2 hr'.1 hr'.2.1
        clear a0 a1 a2 a3 b0 b1 b2 b3 c0 c1 c2 c3 d0 d1 d2 d3 f0 f1 f2 f3 g0 g1 g2 g3
        refine bodyPost_ret (v := .tuple #[.agg #[.int .i64 x.kind, .int .i64 x.num, .string x.name, .slice p0 x.args.length q0], .agg #[.int .i64 y.kind, .int .i64 y.num, .string y.name, .slice p1 y.args.length q1], .int .i64 0]) (by simp [results, Try.results41, go_sem, z0, z1, z2, z3, y0, y1, y2, y3]; try rfl) rfl ?_
        unfold RetSplit
        rw [split_good (by rw [HH.out]; exact E9.out) (by rw [HB.out]; exact HCL.out), HH.out, HB.out]
        exact ⟨_, _, _, _, rfl, later_of S9.out.th hr'.2.2, later_of S9.out.tb hr'.2.2, hr'.2.2⟩
    | false =>
      have HCL := Lib.hid hcl
      have CGF := Lib.hid (CGFalse.out hcl)
      clear hcl
      go_wp2_with (first | (go_at_call 36; ((with_reducible refine (CGF.out _ S8.out.bel).mono ?_); rintro e W9 ⟨rfl, bb⟩; have S9 := Lib.hid (S8.out.below bb); clear a0 a1 a2 a3 b0 b1 b2 b3 c0 c1 c2 c3 d0 d1 d2 d3 f0 f1 f2 f3 g0 g1 g2 g3; obtain ⟨⟨a0, a1, a2, a3⟩, b0, b1, b2, b3⟩ := S9.out.facts; obtain ⟨⟨⟨c0, f0⟩, ⟨c1, f1⟩, ⟨c2, f2⟩, c3, f3⟩, ⟨d0, g0⟩, ⟨d1, g1⟩, ⟨d2, g2⟩, d3, g3⟩ := S9.out.zeros; clear bb)))
      refine post_gen fun W9 hW9 => ?_
      have hr' := S9.out.res9 rfl (.inl hW9)
      clear hW9
      obtain ⟨⟨z0, z1, z2, z3⟩, y0, y1, y2, y3⟩ := kk2 hr'.1 hr'.2.1
      clear a0 a1 a2 a3 b0 b1 b2 b3 c0 c1 c2 c3 d0 d1 d2 d3 f0 f1 f2 f3 g0 g1 g2 g3
      refine bodyPost_ret (v := .tuple #[.agg #[.int .i64 0, .int .i64 0, .string ⟨#[]⟩, .slice none 0 0], .agg #[.int .i64 0, .int .i64 0, .string ⟨#[]⟩, .slice none 0 0], .int .i64 101]) (by simp [results, Try.results41, go_sem, z0, z1, z2, z3, y0, y1, y2, y3]; try rfl) rfl ?_
      unfold RetSplit
      rw [split_call (by rw [HH.out]; exact E9.out) (by rw [HB.out]; exact HCL.out)]
      exact ⟨none, 0, none, 0, rfl, .leaf rfl, .leaf rfl, hr'.2.2⟩
theorem rsplit_c (t : Tm) (va : Value) (w : World) (ht : TmAt (fun _ => True) w t va) (hok : t.ok) (hn : t.size ≤ 100000) : Calls Try.prog 41 #[tmV t va] w (RetSplit t w) := by
  obtain ⟨ao, cc, rfl, _, _⟩ := ht.shape
  have ht' : TmAt (fun b => b < w.heap.size) w t (.slice ao t.args.length cc) := ht.mono fun b hb _ => ⟨hb, rfl⟩
  cases hc : t.is [58, 45] 2 with
  | true => exact rsplit_clause t ao cc w ht' hok hn hc
  | false => exact rsplit_fact t ao cc w ht' hc
end Go.Proofs.Ytmffobadnmkpbaa
namespace Go.Proofs.Ytmffobadnmkpbaa
open Go.RowKit

set_option maxRecDepth 100000 in
set_option maxHeartbeats 6400000 in
theorem normSplits_any (s : ByteArray) (w : World) : Calls Try.prog 10 #[.string s] w fun e w' => e = .returned (.bool true) ∧ Below w.heap.size w w' := by
  have CO := Lib.hid (one10_c s w)
  go_enter Try.func10, Try.ntmps10
  go_upto_region 2 with (first | (go_at_call 34; ((with_reducible refine CO.out.mono ?_); rintro e W1 ⟨t, ao, cap, rfl, ht, hf, bb⟩; have HT := Lib.hid ht; have HF := Lib.hid hf; have B1 := Lib.hid bb; clear bb ht hf)))
  obtain ⟨hok, hsz⟩ := HF.out
  have al : ∀ (W : World) (o : Obj) (B : Nat), B ≤ W.heap.size → Below B W (W.alloc o) := fun W o B h => (Below.refl B W).alloc h o
  have AL := Lib.hid al
  clear al
  obtain ⟨W0, hW0⟩ : ∃ W0, W0 = W1.alloc (.cells #[.int .i64 t.kind, .int .i64 t.num, .string t.name, .slice ao t.args.length cap] 24) := ⟨_, rfl⟩
  have b10 : Below W1.heap.size W1 W0 := by rw [hW0]; exact AL.out _ _ _ (Nat.le_refl _)
  have hs0 : W0.heap.size = W1.heap.size + 1 := by rw [hW0]; simp
  have BX0 : Hid (BoxL W0 W1.heap.size [.int .i64 t.kind, .int .i64 t.num, .string t.name, .slice ao t.args.length cap]) := by rw [hW0]; exact BoxL.mk' W1 #[.int .i64 t.kind, .int .i64 t.num, .string t.name, .slice ao t.args.length cap] 24
  have P0 := Lib.hid (B1.out.trans (b10.mono B1.out.size))
  have hta : TmAt (fun _ => True) W0 t (.slice ao t.args.length cap) := HT.out.any.later b10
  have HTA := Lib.hid hta
  have HS0 := Lib.hid hs0
  have C1 : Hid (∀ W, Below W0.heap.size W0 W → Calls Try.prog 40 #[.agg #[.int .i64 t.kind, .int .i64 t.num, .string t.name, .slice ao t.args.length cap]] W (RetSplit t W)) := fun W h => split_c t _ W (HTA.out.later h) hok (by omega)
  have C2 : Hid (∀ W, Below W0.heap.size W0 W → Calls Try.prog 41 #[.agg #[.int .i64 t.kind, .int .i64 t.num, .string t.name, .slice ao t.args.length cap]] W (RetSplit t W)) := fun W h => rsplit_c t _ W (HTA.out.later h) hok (by omega)
  have C3 := Lib.hid (fun W => normName_c t ao cap W)
  have C4 := Lib.hid (fun W => refName_c t ao cap W)
  have C5 := Lib.hid (fun W => control_c t ao cap W)
  have C6 := Lib.hid (fun W => refControl_c t ao cap W)
  have hR : ∀ W, RetSplit t W = fun e w' => ∃ pa qa pb qb, e = .returned (.tuple #[.agg #[.int .i64 (splitT t).1.kind, .int .i64 (splitT t).1.num, .string (splitT t).1.name, .slice pa (splitT t).1.args.length qa], .agg #[.int .i64 (splitT t).2.1.kind, .int .i64 (splitT t).2.1.num, .string (splitT t).2.1.name, .slice pb (splitT t).2.1.args.length qb], .int .i64 (splitT t).2.2]) ∧
    TmAt (fun _ => True) w' (splitT t).1 (.slice pa (splitT t).1.args.length qa) ∧ TmAt (fun _ => True) w' (splitT t).2.1 (.slice pb (splitT t).2.1.args.length qb) ∧ Below W.heap.size W w' := fun W => rfl
  simp only [hR] at C1 C2
  rw [← hW0]
  clear hW0 hta b10 hs0 hR
  generalize (splitT t).1 = H at *
  generalize (splitT t).2.1 = B at *
  generalize (splitT t).2.2 = E at *
  obtain ⟨x0, x1, x2, x3⟩ := kk4' BX0.out
  go_upto_region 3 with (first
    | (go_at_call 40; ((with_reducible refine (C1.out _ (Below.refl _ _)).mono ?_); rintro e W2 ⟨p1, q1, p2, q2, rfl, t1, t2, bb⟩; have P2 := Lib.hid bb; have T1 := Lib.hid t1; have T2 := Lib.hid t2; clear bb t1 t2)))
  refine wp_gen fun V2 hV2 => ?_
  have PV2 : Hid (Below W2.heap.size W2 V2) := by rw [hV2]; exact (AL.out _ _ _ (Nat.le_refl _)).trans (AL.out _ _ _ (by simp))
  have hsV2 : V2.heap.size = W2.heap.size + 2 := by rw [hV2]; simp
  have BX1 : Hid (BoxL V2 W2.heap.size [.int .i64 H.kind, .int .i64 H.num, .string H.name, .slice p1 H.args.length q1]) := by rw [hV2]; exact (BoxL.mk' W2 #[.int .i64 H.kind, .int .i64 H.num, .string H.name, .slice p1 H.args.length q1] 24).below (AL.out _ _ (W2.heap.size + 1) (by simp)) (by omega)
  have BX2 : Hid (BoxL V2 (W2.heap.size + 1) [.int .i64 B.kind, .int .i64 B.num, .string B.name, .slice p2 B.args.length q2]) := by
    rw [hV2]
    have h := BoxL.mk' (W2.alloc (.cells #[.int .i64 H.kind, .int .i64 H.num, .string H.name, .slice p1 H.args.length q1] 24)) #[.int .i64 B.kind, .int .i64 B.num, .string B.name, .slice p2 B.args.length q2] 24
    simp only [World.size_alloc] at h
    exact h
  have P2V := Lib.hid (P2.out.trans (PV2.out.mono P2.out.size))
  have HSV2 := Lib.hid hsV2
  clear x0 x1 x2 x3 hV2 hsV2
  obtain ⟨x0, x1, x2, x3⟩ := kk4' (BX0.out.block (P2V.out.block _ (BX0.out.lt (by simp))))
  go_upto_region 4 with (first
    | (go_at_call 41; ((with_reducible refine (C2.out _ P2V.out).mono ?_); rintro e W3 ⟨p3, q3, p4, q4, rfl, t3, t4, bb⟩; have P3 := Lib.hid bb; have T3 := Lib.hid t3; have T4 := Lib.hid t4; clear bb t3 t4)))
  refine wp_gen fun V3 hV3 => ?_
  have PV3 : Hid (Below W3.heap.size W3 V3) := by rw [hV3]; exact (AL.out _ _ _ (Nat.le_refl _)).trans (AL.out _ _ _ (by simp))
  have hsV3 : V3.heap.size = W3.heap.size + 2 := by rw [hV3]; simp
  have BX3 : Hid (BoxL V3 W3.heap.size [.int .i64 H.kind, .int .i64 H.num, .string H.name, .slice p3 H.args.length q3]) := by rw [hV3]; exact (BoxL.mk' W3 #[.int .i64 H.kind, .int .i64 H.num, .string H.name, .slice p3 H.args.length q3] 24).below (AL.out _ _ (W3.heap.size + 1) (by simp)) (by omega)
  have BX4 : Hid (BoxL V3 (W3.heap.size + 1) [.int .i64 B.kind, .int .i64 B.num, .string B.name, .slice p4 B.args.length q4]) := by
    rw [hV3]
    have h := BoxL.mk' (W3.alloc (.cells #[.int .i64 H.kind, .int .i64 H.num, .string H.name, .slice p3 H.args.length q3] 24)) #[.int .i64 B.kind, .int .i64 B.num, .string B.name, .slice p4 B.args.length q4] 24
    simp only [World.size_alloc] at h
    exact h
  have Q3 := Lib.hid (P3.out.trans (PV3.out.mono P3.out.size))
  have P3V := Lib.hid (P2V.out.trans (Q3.out.mono P2V.out.size))
  have HSV3 := Lib.hid hsV3
  clear x0 x1 x2 x3 hV3 hsV3
  have SS : Hid (∀ W, Below V3.heap.size V3 W → W.cell? ⟨W1.heap.size, 0, none⟩ = some (.int .i64 t.kind) ∧ W.cell? ⟨W1.heap.size, 1, none⟩ = some (.int .i64 t.num) ∧ W.cell? ⟨W1.heap.size, 2, none⟩ = some (.string t.name) ∧ W.cell? ⟨W1.heap.size, 3, none⟩ = some (.slice ao t.args.length cap) ∧ W.cell? ⟨W2.heap.size, 0, none⟩ = some (.int .i64 H.kind) ∧ W.cell? ⟨W2.heap.size, 1, none⟩ = some (.int .i64 H.num) ∧ W.cell? ⟨W2.heap.size, 2, none⟩ = some (.string H.name) ∧ W.cell? ⟨W2.heap.size, 3, none⟩ = some (.slice p1 H.args.length q1) ∧ W.cell? ⟨W2.heap.size + 1, 0, none⟩ = some (.int .i64 B.kind) ∧ W.cell? ⟨W2.heap.size + 1, 1, none⟩ = some (.int .i64 B.num) ∧ W.cell? ⟨W2.heap.size + 1, 2, none⟩ = some (.string B.name) ∧ W.cell? ⟨W2.heap.size + 1, 3, none⟩ = some (.slice p2 B.args.length q2) ∧ W.cell? ⟨W3.heap.size, 0, none⟩ = some (.int .i64 H.kind) ∧ W.cell? ⟨W3.heap.size, 1, none⟩ = some (.int .i64 H.num) ∧ W.cell? ⟨W3.heap.size, 2, none⟩ = some (.string H.name) ∧ W.cell? ⟨W3.heap.size, 3, none⟩ = some (.slice p3 H.args.length q3) ∧ W.cell? ⟨W3.heap.size + 1, 0, none⟩ = some (.int .i64 B.kind) ∧ W.cell? ⟨W3.heap.size + 1, 1, none⟩ = some (.int .i64 B.num) ∧ W.cell? ⟨W3.heap.size + 1, 2, none⟩ = some (.string B.name) ∧ W.cell? ⟨W3.heap.size + 1, 3, none⟩ = some (.slice p4 B.args.length q4)) := fun W h => by
    have k0 := kk4' ((BX0.out.block (P3V.out.block _ (BX0.out.lt (by simp)))).below h (by have := HSV3.out; have h1 := (BX0.out.lt (by simp)); have h2 := P3V.out.size; omega))
    have k1 := kk4' ((BX1.out.block (Q3.out.block _ (BX1.out.lt (by simp)))).below h (by have h1 := (BX1.out.lt (by simp)); have h2 := Q3.out.size; omega))
    have k2 := kk4' ((BX2.out.block (Q3.out.block _ (BX2.out.lt (by simp)))).below h (by have h1 := (BX2.out.lt (by simp)); have h2 := Q3.out.size; omega))
    have k3 := kk4' (BX3.out.below h (BX3.out.lt (by simp)))
    have k4 := kk4' (BX4.out.below h (BX4.out.lt (by simp)))
    exact ⟨k0.1, k0.2.1, k0.2.2.1, k0.2.2.2, k1.1, k1.2.1, k1.2.2.1, k1.2.2.2, k2.1, k2.2.1, k2.2.2.1, k2.2.2.2, k3.1, k3.2.1, k3.2.2.1, k3.2.2.2, k4.1, k4.2.1, k4.2.2.1, k4.2.2.2⟩
  have D1 : Hid (∀ W, Below V3.heap.size V3 W → Calls Try.prog 39 #[.agg #[.int .i64 H.kind, .int .i64 H.num, .string H.name, .slice p1 H.args.length q1], .agg #[.int .i64 H.kind, .int .i64 H.num, .string H.name, .slice p3 H.args.length q3]] W fun e w' => e = .returned (.bool true) ∧ Below W.heap.size W w') := fun W h => same10_all H _ _ W (((T1.out.later PV2.out).later Q3.out).later h) ((T3.out.later PV3.out).later h)
  have D2 : Hid (∀ W, Below V3.heap.size V3 W → Calls Try.prog 39 #[.agg #[.int .i64 B.kind, .int .i64 B.num, .string B.name, .slice p2 B.args.length q2], .agg #[.int .i64 B.kind, .int .i64 B.num, .string B.name, .slice p4 B.args.length q4]] W fun e w' => e = .returned (.bool true) ∧ Below W.heap.size W w') := fun W h => same10_all B _ _ W (((T2.out.later PV2.out).later Q3.out).later h) ((T4.out.later PV3.out).later h)
  have hnn : (t.name.toList == t.name.toList) = true := by simp
  obtain ⟨x0, x1, x2, x3, _⟩ := SS.out _ (Below.refl _ _)
  clear C1 C2 BX0 BX1 BX2 BX3 BX4 T1 T2 T3 T4 PV2 PV3
  go_upto_region 6 with (first
    | (go_at_call 38; ((with_reducible refine (C3.out _).mono ?_); rintro e W4 ⟨rfl, bb⟩; have P4 := Lib.hid bb; clear x0 x1 x2 x3; obtain ⟨x0, x1, x2, x3, _⟩ := SS.out _ bb; clear bb))
    | (go_at_call 42; ((with_reducible refine (C4.out _).mono ?_); rintro e W5 ⟨rfl, bb⟩; have P5 := Lib.hid (P4.out.trans (bb.mono P4.out.size)); clear bb)))
  clear x0 x1 x2 x3
  have k0 := SS.out _ P5.out
  have CC1 : Hid (∀ W, Below W5.heap.size W5 W → Calls Try.prog 39 #[.agg #[.int .i64 H.kind, .int .i64 H.num, .string H.name, .slice p1 H.args.length q1], .agg #[.int .i64 H.kind, .int .i64 H.num, .string H.name, .slice p3 H.args.length q3]] W fun e w' => e = .returned (.bool true) ∧ Below W5.heap.size W5 w') := fun W h => (D1.out W (P5.out.trans (h.mono P5.out.size))).mono fun e w' ⟨h1, h2⟩ => ⟨h1, h.trans (h2.mono h.size)⟩
  have CC2 : Hid (∀ W, Below W5.heap.size W5 W → Calls Try.prog 39 #[.agg #[.int .i64 B.kind, .int .i64 B.num, .string B.name, .slice p2 B.args.length q2], .agg #[.int .i64 B.kind, .int .i64 B.num, .string B.name, .slice p4 B.args.length q4]] W fun e w' => e = .returned (.bool true) ∧ Below W5.heap.size W5 w') := fun W h => (D2.out W (P5.out.trans (h.mono P5.out.size))).mono fun e w' ⟨h1, h2⟩ => ⟨h1, h.trans (h2.mono h.size)⟩
  have CC3 : Hid (∀ W, Below W5.heap.size W5 W → Calls Try.prog 43 #[.agg #[.int .i64 t.kind, .int .i64 t.num, .string t.name, .slice ao t.args.length cap]] W fun e w' => e = .returned (.bool (controlT t)) ∧ Below W5.heap.size W5 w') := fun W h => (C5.out W).mono fun e w' ⟨h1, h2⟩ => ⟨h1, h.trans (h2.mono h.size)⟩
  have CC4 : Hid (∀ W, Below W5.heap.size W5 W → Calls Try.prog 44 #[.agg #[.int .i64 t.kind, .int .i64 t.num, .string t.name, .slice ao t.args.length cap]] W fun e w' => e = .returned (.bool (controlT t)) ∧ Below W5.heap.size W5 w') := fun W h => (C6.out W).mono fun e w' ⟨h1, h2⟩ => ⟨h1, h.trans (h2.mono h.size)⟩
  have SS5 : Hid (∀ W, Below W5.heap.size W5 W → W.cell? ⟨W1.heap.size, 0, none⟩ = some (.int .i64 t.kind) ∧ W.cell? ⟨W1.heap.size, 1, none⟩ = some (.int .i64 t.num) ∧ W.cell? ⟨W1.heap.size, 2, none⟩ = some (.string t.name) ∧ W.cell? ⟨W1.heap.size, 3, none⟩ = some (.slice ao t.args.length cap) ∧ W.cell? ⟨W2.heap.size, 0, none⟩ = some (.int .i64 H.kind) ∧ W.cell? ⟨W2.heap.size, 1, none⟩ = some (.int .i64 H.num) ∧ W.cell? ⟨W2.heap.size, 2, none⟩ = some (.string H.name) ∧ W.cell? ⟨W2.heap.size, 3, none⟩ = some (.slice p1 H.args.length q1) ∧ W.cell? ⟨W2.heap.size + 1, 0, none⟩ = some (.int .i64 B.kind) ∧ W.cell? ⟨W2.heap.size + 1, 1, none⟩ = some (.int .i64 B.num) ∧ W.cell? ⟨W2.heap.size + 1, 2, none⟩ = some (.string B.name) ∧ W.cell? ⟨W2.heap.size + 1, 3, none⟩ = some (.slice p2 B.args.length q2) ∧ W.cell? ⟨W3.heap.size, 0, none⟩ = some (.int .i64 H.kind) ∧ W.cell? ⟨W3.heap.size, 1, none⟩ = some (.int .i64 H.num) ∧ W.cell? ⟨W3.heap.size, 2, none⟩ = some (.string H.name) ∧ W.cell? ⟨W3.heap.size, 3, none⟩ = some (.slice p3 H.args.length q3) ∧ W.cell? ⟨W3.heap.size + 1, 0, none⟩ = some (.int .i64 B.kind) ∧ W.cell? ⟨W3.heap.size + 1, 1, none⟩ = some (.int .i64 B.num) ∧ W.cell? ⟨W3.heap.size + 1, 2, none⟩ = some (.string B.name) ∧ W.cell? ⟨W3.heap.size + 1, 3, none⟩ = some (.slice p4 B.args.length q4)) := fun W h => SS.out W (P5.out.trans (h.mono P5.out.size))
  clear D1 D2 C3 C4 C5 C6 SS
  generalize controlT t = ct at *
  generalize t.named = nd at *
  cases ct <;> cases nd
  all_goals
    go_region_held3 (fun W => W.cell? ⟨W1.heap.size, 0, none⟩ = some (.int .i64 t.kind) ∧ W.cell? ⟨W1.heap.size, 1, none⟩ = some (.int .i64 t.num) ∧ W.cell? ⟨W1.heap.size, 2, none⟩ = some (.string t.name) ∧ W.cell? ⟨W1.heap.size, 3, none⟩ = some (.slice ao t.args.length cap) ∧ W.cell? ⟨W2.heap.size, 0, none⟩ = some (.int .i64 H.kind) ∧ W.cell? ⟨W2.heap.size, 1, none⟩ = some (.int .i64 H.num) ∧ W.cell? ⟨W2.heap.size, 2, none⟩ = some (.string H.name) ∧ W.cell? ⟨W2.heap.size, 3, none⟩ = some (.slice p1 H.args.length q1) ∧ W.cell? ⟨W2.heap.size + 1, 0, none⟩ = some (.int .i64 B.kind) ∧ W.cell? ⟨W2.heap.size + 1, 1, none⟩ = some (.int .i64 B.num) ∧ W.cell? ⟨W2.heap.size + 1, 2, none⟩ = some (.string B.name) ∧ W.cell? ⟨W2.heap.size + 1, 3, none⟩ = some (.slice p2 B.args.length q2) ∧ W.cell? ⟨W3.heap.size, 0, none⟩ = some (.int .i64 H.kind) ∧ W.cell? ⟨W3.heap.size, 1, none⟩ = some (.int .i64 H.num) ∧ W.cell? ⟨W3.heap.size, 2, none⟩ = some (.string H.name) ∧ W.cell? ⟨W3.heap.size, 3, none⟩ = some (.slice p3 H.args.length q3) ∧ W.cell? ⟨W3.heap.size + 1, 0, none⟩ = some (.int .i64 B.kind) ∧ W.cell? ⟨W3.heap.size + 1, 1, none⟩ = some (.int .i64 B.num) ∧ W.cell? ⟨W3.heap.size + 1, 2, none⟩ = some (.string B.name) ∧ W.cell? ⟨W3.heap.size + 1, 3, none⟩ = some (.slice p4 B.args.length q4))
      ((first | exact SS5.out _ R4.out | exact SS5.out _ R3.out | exact SS5.out _ R2.out | exact SS5.out _ R1.out | (refine SS5.out _ ?_; go_grown)))
      (first
        | (go_at_call 43; ((with_reducible refine (CC3.out _ R2.out).mono ?_); rintro e W8 ⟨rfl, bb⟩; have R3 := Lib.hid bb; clear bb))
        | (go_at_call 44; ((with_reducible refine (CC4.out _ R3.out).mono ?_); rintro e W9 ⟨rfl, bb⟩; have R4 := Lib.hid bb; clear bb))
        | (go_at_call 39; ((with_reducible refine (CC2.out _ R1.out).mono ?_); rintro e W7 ⟨rfl, bb⟩; have R2 := Lib.hid bb; clear bb))
        | (go_at_call 39; ((with_reducible refine (CC1.out _ ?_).mono ?_); (· go_grown); rintro e W6 ⟨rfl, bb⟩; have R1 := Lib.hid bb; clear bb)))
    go_wp2
    go_ret
    exact ⟨rfl, P0.out.trans ((P3V.out.trans ((P5.out.trans (R4.out.mono P5.out.size)).mono P3V.out.size)).mono P0.out.size)⟩
end Go.Proofs.Ytmffobadnmkpbaa
