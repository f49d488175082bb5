/-
  norm.Split, walked.
  norm.Split, walked: a clause; and whole.
-/
import Derived.Test.YtmffobadnmkpbaaKnorm4
import Derived.BigRegion
import Derived.RegionTactic
namespace Go.Proofs.Ytmffobadnmkpbaa
open Go.RowKit

theorem SB.facts {w W : World} {hd bd : Tm} {ha ba : Value} (H : SB w W zero4 zero4 hd bd ha ba) :
    (W.cell? ⟨w.heap.size + 1 + 1 + 1, 0, none⟩ = some (.int .i64 hd.kind) ∧ W.cell? ⟨w.heap.size + 1 + 1 + 1, 1, none⟩ = some (.int .i64 hd.num) ∧ W.cell? ⟨w.heap.size + 1 + 1 + 1, 2, none⟩ = some (.string hd.name) ∧ W.cell? ⟨w.heap.size + 1 + 1 + 1, 3, none⟩ = some ha) ∧
    (W.cell? ⟨w.heap.size + 1 + 1 + 1 + 1, 0, none⟩ = some (.int .i64 bd.kind) ∧ W.cell? ⟨w.heap.size + 1 + 1 + 1 + 1, 1, none⟩ = some (.int .i64 bd.num) ∧ W.cell? ⟨w.heap.size + 1 + 1 + 1 + 1, 2, none⟩ = some (.string bd.name) ∧ W.cell? ⟨w.heap.size + 1 + 1 + 1 + 1, 3, none⟩ = some ba) := ⟨kk4' H.hb, kk4' H.bb⟩
theorem SB.zeros {w W : World} {hd bd : Tm} {ha ba : Value} (H : SB w W zero4 zero4 hd bd ha ba) :
    ((W.cell? ⟨w.heap.size + 1, 0, none⟩ = some (.int .i64 0) ∧ W.frozen? ⟨w.heap.size + 1, 0, none⟩ = false) ∧ (W.cell? ⟨w.heap.size + 1, 1, none⟩ = some (.int .i64 0) ∧ W.frozen? ⟨w.heap.size + 1, 1, none⟩ = false) ∧ (W.cell? ⟨w.heap.size + 1, 2, none⟩ = some (.string ⟨#[]⟩) ∧ W.frozen? ⟨w.heap.size + 1, 2, none⟩ = false) ∧ (W.cell? ⟨w.heap.size + 1, 3, none⟩ = some (.slice none 0 0) ∧ W.frozen? ⟨w.heap.size + 1, 3, none⟩ = false)) ∧
    ((W.cell? ⟨w.heap.size + 1 + 1, 0, none⟩ = some (.int .i64 0) ∧ W.frozen? ⟨w.heap.size + 1 + 1, 0, none⟩ = false) ∧ (W.cell? ⟨w.heap.size + 1 + 1, 1, none⟩ = some (.int .i64 0) ∧ W.frozen? ⟨w.heap.size + 1 + 1, 1, none⟩ = false) ∧ (W.cell? ⟨w.heap.size + 1 + 1, 2, none⟩ = some (.string ⟨#[]⟩) ∧ W.frozen? ⟨w.heap.size + 1 + 1, 2, none⟩ = false) ∧ (W.cell? ⟨w.heap.size + 1 + 1, 3, none⟩ = some (.slice none 0 0) ∧ W.frozen? ⟨w.heap.size + 1 + 1, 3, none⟩ = false)) :=
  ⟨⟨H.z1.get 0 rfl, H.z1.get 1 rfl, H.z1.get 2 rfl, H.z1.get 3 rfl⟩, ⟨H.z2.get 0 rfl, H.z2.get 1 rfl, H.z2.get 2 rfl, H.z2.get 3 rfl⟩⟩
theorem BoxL.drew {W : World} {b : Nat} {cs : List Value} (h : BoxL W b cs) : BoxL W.drew b cs := h
/-- the results stored, in whatever cells -/
theorem SB.res9 {w W W9 : World} {hd bd : Tm} {ha ba : Value} (H : SB w W zero4 zero4 hd bd ha ba) {x0 x1 x2 x3 y0 y1 y2 y3 : Value} {X : World}
    (hX : X = ((((((((W.setCell ⟨w.heap.size + 1, 0, none⟩ x0).setCell ⟨w.heap.size + 1, 1, none⟩ x1).setCell ⟨w.heap.size + 1, 2, none⟩ x2).setCell ⟨w.heap.size + 1, 3, none⟩ x3).setCell ⟨w.heap.size + 1 + 1, 0, none⟩ y0).setCell ⟨w.heap.size + 1 + 1, 1, none⟩ y1).setCell ⟨w.heap.size + 1 + 1, 2, none⟩ y2).setCell ⟨w.heap.size + 1 + 1, 3, none⟩ y3)) (h9 : W9 = X ∨ W9 = X.drew) :
    BoxL W9 (w.heap.size + 1) [x0, x1, x2, x3] ∧ BoxL W9 (w.heap.size + 2) [y0, y1, y2, y3] ∧ Below w.heap.size w W9 := by
  have h1 : BoxL X (w.heap.size + 1) [x0, x1, x2, x3] := by rw [hX]; exact boxl_far4 (boxl_set4 (x0 := .int .i64 0) (x1 := .int .i64 0) (x2 := .string ⟨#[]⟩) (x3 := .slice none 0 0) H.z1 _ _ _ _) (by omega) _ _ _ _
  have h2 : BoxL X (w.heap.size + 1 + 1) [y0, y1, y2, y3] := by rw [hX]; exact boxl_set4 (x0 := .int .i64 0) (x1 := .int .i64 0) (x2 := .string ⟨#[]⟩) (x3 := .slice none 0 0) (boxl_far4 H.z2 (by omega) _ _ _ _) _ _ _ _
  have h3 : Below w.heap.size w X := by rw [hX]; exact below_set4 (below_set4 H.bel (by omega) _ _ _ _) (by omega) _ _ _ _
  rcases h9 with rfl | rfl
  · exact ⟨h1, h2, h3⟩
  · exact ⟨h1.drew, h2.drew, h3.drew⟩
theorem post_gen {P : Program} {f : Func} {Q : Ending → World → Prop} {a : Act} {W' : World} (h : ∀ W9, W9 = W' → bodyPost P f Q Exit.ret a W9) : bodyPost P f Q Exit.ret a W' := h _ rfl
/-- the results as they lie there -/
theorem kk2 {h : Nat} {W9 : World} {x0 x1 x2 x3 y0 y1 y2 y3 : Value} (h1 : BoxL W9 (h + 1) [x0, x1, x2, x3]) (h2 : BoxL W9 (h + 2) [y0, y1, y2, y3]) :
    (W9.cell? ⟨h + 1, 0, none⟩ = some x0 ∧ W9.cell? ⟨h + 1, 1, none⟩ = some x1 ∧ W9.cell? ⟨h + 1, 2, none⟩ = some x2 ∧ W9.cell? ⟨h + 1, 3, none⟩ = some x3) ∧ (W9.cell? ⟨h + 1 + 1, 0, none⟩ = some y0 ∧ W9.cell? ⟨h + 1 + 1, 1, none⟩ = some y1 ∧ W9.cell? ⟨h + 1 + 1, 2, none⟩ = some y2 ∧ W9.cell? ⟨h + 1 + 1, 3, none⟩ = some y3) := ⟨kk4' h1, kk4' h2⟩
theorem bad_cases (h : Tm) : (h.named = false ∧ badHead h = true) ∨ (h.named = true ∧ controlT h = true ∧ badHead h = true) ∨ (h.named = true ∧ controlT h = false ∧ (h.name.toList == [58, 45]) = true ∧ ((h.args.length : Int) == 1) = true ∧ badHead h = true) ∨ (h.named = true ∧ controlT h = false ∧ (h.name.toList == [58, 45]) = true ∧ ((h.args.length : Int) == 1) = false ∧ ((h.args.length : Int) == 2) = true ∧ badHead h = true) ∨
    (h.named = true ∧ controlT h = false ∧ (h.name.toList == [58, 45]) = true ∧ ((h.args.length : Int) == 1) = false ∧ ((h.args.length : Int) == 2) = false ∧ badHead h = false) ∨ (h.named = true ∧ controlT h = false ∧ (h.name.toList == [58, 45]) = false ∧ badHead h = false) := by
  have e1 : ((h.args.length : Int) == 1) = decide (h.args.length = 1) := by apply Bool.eq_iff_iff.2; simp; omega
  have e2 : ((h.args.length : Int) == 2) = decide (h.args.length = 2) := by apply Bool.eq_iff_iff.2; simp; omega
  simp only [badHead, Tm.is]
  rw [e1, e2]
  cases h.named <;> cases controlT h <;> cases (h.name.toList == [58, 45]) <;> cases decide (h.args.length = 1) <;> cases decide (h.args.length = 2) <;> simp
theorem split_bad {t : Tm} (h : badHead (headT t) = true) : splitT t = (.nil, .nil, 100) := by simp [splitT, h]
theorem split_call {t : Tm} (h : badHead (headT t) = false) (hc : (bodyT t).callable = false) : splitT t = (.nil, .nil, 101) := by simp [splitT, h, hc]
theorem split_good {t : Tm} (h : badHead (headT t) = false) (hc : (bodyT t).callable = true) : splitT t = (headT t, bodyT t, 0) := by simp [splitT, h, hc]
theorem later_of {w W : World} {t : Tm} {a : Value} (h : TmAt (fun b => b < w.heap.size) w t a) (hb : Below w.heap.size w W) : TmAt (fun _ => True) W t a := h.mono fun b _ hp => ⟨trivial, hb.block b hp⟩

set_option maxRecDepth 100000 in
set_option maxHeartbeats 6400000 in
theorem split_fact (t : Tm) (ao : Option Addr) (cc : Nat) (w : World) (ht' : TmAt (fun b => b < w.heap.size) w t (.slice ao t.args.length cc)) (hc : t.is [58, 45] 2 = false) :
    Calls Try.prog 40 #[.agg #[.int .i64 t.kind, .int .i64 t.num, .string t.name, .slice ao t.args.length cc]] w (RetSplit t w) := by
  have S0 := Lib.hid (SB.start w (.cells #[.int .i64 t.kind, .int .i64 t.num, .string t.name, .slice ao t.args.length cc] 24) t _ 24 ht')
  have CN := Lib.hid (fun W => normName_c t ao cc W)
  have CGT : Hid (∀ W, Below w.heap.size w W → Calls Try.prog 35 #[.agg #[.int .i64 trueT.kind, .int .i64 trueT.num, .string trueT.name, .slice none 0 0]] W fun e w' => ∃ a n c, e = .returned (.tuple #[.slice a n c, .int .i64 0]) ∧ Below W.heap.size W w') := fun W _ => (goals_c trueT (.slice none 0 0) W (.leaf rfl) (.atom (by decide)) (by simp [trueT, Tm.size])).mono fun e w' h => by
    have h' : RetGoals trueT W e w' := h
    simp only [RetGoals, show trueT.callable = true from rfl, if_true] at h'
    obtain ⟨a, c, Lv, h1, _, _, h4⟩ := h'
    exact ⟨a, Lv.length, c, h1, h4⟩
  have hh : headT t = t := by simp [headT, hc]
  have hb : bodyT t = trueT := by simp [bodyT, hc]
  have D : ((t.name.toList == [58, 45]) = true ∧ ((t.args.length : Int) == 2) = false) ∨ (t.name.toList == [58, 45]) = false := by
    have e : ((t.args.length : Int) == 2) = decide (t.args.length = 2) := by apply Bool.eq_iff_iff.2; simp; omega
    rw [e]
    simp only [Tm.is] at hc
    cases h1 : (t.name.toList == [58, 45]) <;> cases h2 : decide (t.args.length = 2) <;> simp_all
  have HH := Lib.hid hh
  have HB := Lib.hid hb
  clear hc hh hb ht'
  rcases D with ⟨m1, m2⟩ | m1
  all_goals
    go_enter Try.func40, Try.ntmps40
    go_upto_region 5 with (first
      | (go_at_call 38; ((with_reducible refine (CN.out _).mono ?_); rintro e W1 ⟨rfl, bb⟩; have S1 := Lib.hid (S0.out.below bb); clear bb)))
    obtain ⟨⟨a0, a1, a2, a3⟩, b0, b1, b2, b3⟩ := S1.out.facts
    obtain ⟨⟨⟨c0, f0⟩, ⟨c1, f1⟩, ⟨c2, f2⟩, c3, f3⟩, ⟨d0, g0⟩, ⟨d1, g1⟩, ⟨d2, g2⟩, d3, g3⟩ := S1.out.zeros
    clear S0 CN
    try clear m2
    clear m1
    have CNH := Lib.hid (fun W => normName_c t ao cc W)
    have CTH := Lib.hid (fun W => control_c t ao cc W)
    rcases bad_cases t with ⟨e1, e9⟩ | ⟨e1, e2, e9⟩ | ⟨e1, e2, e3, e4, e9⟩ | ⟨e1, e2, e3, e4, e5, e9⟩ | ⟨e1, e2, e3, e4, e5, e9⟩ | ⟨e1, e2, e3, e9⟩
    · have E9 := Lib.hid e9
      rw [e1] at CNH
      clear e1 e9
      go_wp2_with (first | (go_at_call 38; ((with_reducible refine (CNH.out _).mono ?_); rintro e W5 ⟨rfl, bb⟩; have S5 := Lib.hid (S1.out.below bb); clear a0 a1 a2 a3 b0 b1 b2 b3 c0 c1 c2 c3 d0 d1 d2 d3 f0 f1 f2 f3 g0 g1 g2 g3; obtain ⟨⟨a0, a1, a2, a3⟩, b0, b1, b2, b3⟩ := S5.out.facts; obtain ⟨⟨⟨c0, f0⟩, ⟨c1, f1⟩, ⟨c2, f2⟩, c3, f3⟩, ⟨d0, g0⟩, ⟨d1, g1⟩, ⟨d2, g2⟩, d3, g3⟩ := S5.out.zeros; clear bb)))
      refine post_gen fun W9 hW9 => ?_
      have hr' := S5.out.res9 rfl (.inl hW9)
      clear hW9
      obtain ⟨⟨z0, z1, z2, z3⟩, y0, y1, y2, y3⟩ := kk2 hr'.1 hr'.2.1
      clear a0 a1 a2 a3 b0 b1 b2 b3 c0 c1 c2 c3 d0 d1 d2 d3 f0 f1 f2 f3 g0 g1 g2 g3
      refine bodyPost_ret (v := .tuple #[.agg #[.int .i64 0, .int .i64 0, .string ⟨#[]⟩, .slice none 0 0], .agg #[.int .i64 0, .int .i64 0, .string ⟨#[]⟩, .slice none 0 0], .int .i64 100]) (by simp [results, Try.results40, go_sem, z0, z1, z2, z3, y0, y1, y2, y3]; try rfl) rfl ?_
      unfold RetSplit
      rw [split_bad (by rw [HH.out]; exact E9.out)]
      exact ⟨none, 0, none, 0, rfl, .leaf rfl, .leaf rfl, hr'.2.2⟩
    · have E9 := Lib.hid e9
      rw [e1] at CNH
      rw [e2] at CTH
      clear e1 e9 e2
      go_wp2_with (first | (go_at_call 38; ((with_reducible refine (CNH.out _).mono ?_); rintro e W5 ⟨rfl, bb⟩; have S5 := Lib.hid (S1.out.below bb); clear a0 a1 a2 a3 b0 b1 b2 b3 c0 c1 c2 c3 d0 d1 d2 d3 f0 f1 f2 f3 g0 g1 g2 g3; obtain ⟨⟨a0, a1, a2, a3⟩, b0, b1, b2, b3⟩ := S5.out.facts; obtain ⟨⟨⟨c0, f0⟩, ⟨c1, f1⟩, ⟨c2, f2⟩, c3, f3⟩, ⟨d0, g0⟩, ⟨d1, g1⟩, ⟨d2, g2⟩, d3, g3⟩ := S5.out.zeros; clear bb)) | (go_at_call 43; ((with_reducible refine (CTH.out _).mono ?_); rintro e W6 ⟨rfl, bb⟩; have S6 := Lib.hid (S5.out.below bb); clear a0 a1 a2 a3 b0 b1 b2 b3 c0 c1 c2 c3 d0 d1 d2 d3 f0 f1 f2 f3 g0 g1 g2 g3; obtain ⟨⟨a0, a1, a2, a3⟩, b0, b1, b2, b3⟩ := S6.out.facts; obtain ⟨⟨⟨c0, f0⟩, ⟨c1, f1⟩, ⟨c2, f2⟩, c3, f3⟩, ⟨d0, g0⟩, ⟨d1, g1⟩, ⟨d2, g2⟩, d3, g3⟩ := S6.out.zeros; clear bb)))
      refine post_gen fun W9 hW9 => ?_
      have hr' := S6.out.res9 rfl (.inl hW9)
      clear hW9
      obtain ⟨⟨z0, z1, z2, z3⟩, y0, y1, y2, y3⟩ := kk2 hr'.1 hr'.2.1
      clear a0 a1 a2 a3 b0 b1 b2 b3 c0 c1 c2 c3 d0 d1 d2 d3 f0 f1 f2 f3 g0 g1 g2 g3
      refine bodyPost_ret (v := .tuple #[.agg #[.int .i64 0, .int .i64 0, .string ⟨#[]⟩, .slice none 0 0], .agg #[.int .i64 0, .int .i64 0, .string ⟨#[]⟩, .slice none 0 0], .int .i64 100]) (by simp [results, Try.results40, go_sem, z0, z1, z2, z3, y0, y1, y2, y3]; try rfl) rfl ?_
      unfold RetSplit
      rw [split_bad (by rw [HH.out]; exact E9.out)]
      exact ⟨none, 0, none, 0, rfl, .leaf rfl, .leaf rfl, hr'.2.2⟩
    · have E9 := Lib.hid e9
      rw [e1] at CNH
      rw [e2] at CTH
      clear e1 e9 e2
      go_wp2_with (first | (go_at_call 38; ((with_reducible refine (CNH.out _).mono ?_); rintro e W5 ⟨rfl, bb⟩; have S5 := Lib.hid (S1.out.below bb); clear a0 a1 a2 a3 b0 b1 b2 b3 c0 c1 c2 c3 d0 d1 d2 d3 f0 f1 f2 f3 g0 g1 g2 g3; obtain ⟨⟨a0, a1, a2, a3⟩, b0, b1, b2, b3⟩ := S5.out.facts; obtain ⟨⟨⟨c0, f0⟩, ⟨c1, f1⟩, ⟨c2, f2⟩, c3, f3⟩, ⟨d0, g0⟩, ⟨d1, g1⟩, ⟨d2, g2⟩, d3, g3⟩ := S5.out.zeros; clear bb)) | (go_at_call 43; ((with_reducible refine (CTH.out _).mono ?_); rintro e W6 ⟨rfl, bb⟩; have S6 := Lib.hid (S5.out.below bb); clear a0 a1 a2 a3 b0 b1 b2 b3 c0 c1 c2 c3 d0 d1 d2 d3 f0 f1 f2 f3 g0 g1 g2 g3; obtain ⟨⟨a0, a1, a2, a3⟩, b0, b1, b2, b3⟩ := S6.out.facts; obtain ⟨⟨⟨c0, f0⟩, ⟨c1, f1⟩, ⟨c2, f2⟩, c3, f3⟩, ⟨d0, g0⟩, ⟨d1, g1⟩, ⟨d2, g2⟩, d3, g3⟩ := S6.out.zeros; clear bb)))
      refine post_gen fun W9 hW9 => ?_
      have hr' := S6.out.res9 rfl (.inl hW9)
      clear hW9
      obtain ⟨⟨z0, z1, z2, z3⟩, y0, y1, y2, y3⟩ := kk2 hr'.1 hr'.2.1
      clear a0 a1 a2 a3 b0 b1 b2 b3 c0 c1 c2 c3 d0 d1 d2 d3 f0 f1 f2 f3 g0 g1 g2 g3
      refine bodyPost_ret (v := .tuple #[.agg #[.int .i64 0, .int .i64 0, .string ⟨#[]⟩, .slice none 0 0], .agg #[.int .i64 0, .int .i64 0, .string ⟨#[]⟩, .slice none 0 0], .int .i64 100]) (by simp [results, Try.results40, go_sem, z0, z1, z2, z3, y0, y1, y2, y3]; try rfl) rfl ?_
      unfold RetSplit
      rw [split_bad (by rw [HH.out]; exact E9.out)]
      exact ⟨none, 0, none, 0, rfl, .leaf rfl, .leaf rfl, hr'.2.2⟩
    · have E9 := Lib.hid e9
      rw [e1] at CNH
      rw [e2] at CTH
      clear e1 e9 e2
      go_wp2_with (first | (go_at_call 38; ((with_reducible refine (CNH.out _).mono ?_); rintro e W5 ⟨rfl, bb⟩; have S5 := Lib.hid (S1.out.below bb); clear a0 a1 a2 a3 b0 b1 b2 b3 c0 c1 c2 c3 d0 d1 d2 d3 f0 f1 f2 f3 g0 g1 g2 g3; obtain ⟨⟨a0, a1, a2, a3⟩, b0, b1, b2, b3⟩ := S5.out.facts; obtain ⟨⟨⟨c0, f0⟩, ⟨c1, f1⟩, ⟨c2, f2⟩, c3, f3⟩, ⟨d0, g0⟩, ⟨d1, g1⟩, ⟨d2, g2⟩, d3, g3⟩ := S5.out.zeros; clear bb)) | (go_at_call 43; ((with_reducible refine (CTH.out _).mono ?_); rintro e W6 ⟨rfl, bb⟩; have S6 := Lib.hid (S5.out.below bb); clear a0 a1 a2 a3 b0 b1 b2 b3 c0 c1 c2 c3 d0 d1 d2 d3 f0 f1 f2 f3 g0 g1 g2 g3; obtain ⟨⟨a0, a1, a2, a3⟩, b0, b1, b2, b3⟩ := S6.out.facts; obtain ⟨⟨⟨c0, f0⟩, ⟨c1, f1⟩, ⟨c2, f2⟩, c3, f3⟩, ⟨d0, g0⟩, ⟨d1, g1⟩, ⟨d2, g2⟩, d3, g3⟩ := S6.out.zeros; clear bb)))
      refine post_gen fun W9 hW9 => ?_
      have hr' := S6.out.res9 rfl (.inl hW9)
      clear hW9
      obtain ⟨⟨z0, z1, z2, z3⟩, y0, y1, y2, y3⟩ := kk2 hr'.1 hr'.2.1
      clear a0 a1 a2 a3 b0 b1 b2 b3 c0 c1 c2 c3 d0 d1 d2 d3 f0 f1 f2 f3 g0 g1 g2 g3
      refine bodyPost_ret (v := .tuple #[.agg #[.int .i64 0, .int .i64 0, .string ⟨#[]⟩, .slice none 0 0], .agg #[.int .i64 0, .int .i64 0, .string ⟨#[]⟩, .slice none 0 0], .int .i64 100]) (by simp [results, Try.results40, go_sem, z0, z1, z2, z3, y0, y1, y2, y3]; try rfl) rfl ?_
      unfold RetSplit
      rw [split_bad (by rw [HH.out]; exact E9.out)]
      exact ⟨none, 0, none, 0, rfl, .leaf rfl, .leaf rfl, hr'.2.2⟩
    · have E9 := Lib.hid e9
      rw [e1] at CNH
      rw [e2] at CTH
      clear e1 e9 e2
      go_upto_region 8 with (first | (go_at_call 38; ((with_reducible refine (CNH.out _).mono ?_); rintro e W5 ⟨rfl, bb⟩; have S5 := Lib.hid (S1.out.below bb); clear a0 a1 a2 a3 b0 b1 b2 b3 c0 c1 c2 c3 d0 d1 d2 d3 f0 f1 f2 f3 g0 g1 g2 g3; obtain ⟨⟨a0, a1, a2, a3⟩, b0, b1, b2, b3⟩ := S5.out.facts; obtain ⟨⟨⟨c0, f0⟩, ⟨c1, f1⟩, ⟨c2, f2⟩, c3, f3⟩, ⟨d0, g0⟩, ⟨d1, g1⟩, ⟨d2, g2⟩, d3, g3⟩ := S5.out.zeros; clear bb)) | (go_at_call 43; ((with_reducible refine (CTH.out _).mono ?_); rintro e W6 ⟨rfl, bb⟩; have S6 := Lib.hid (S5.out.below bb); clear a0 a1 a2 a3 b0 b1 b2 b3 c0 c1 c2 c3 d0 d1 d2 d3 f0 f1 f2 f3 g0 g1 g2 g3; obtain ⟨⟨a0, a1, a2, a3⟩, b0, b1, b2, b3⟩ := S6.out.facts; obtain ⟨⟨⟨c0, f0⟩, ⟨c1, f1⟩, ⟨c2, f2⟩, c3, f3⟩, ⟨d0, g0⟩, ⟨d1, g1⟩, ⟨d2, g2⟩, d3, g3⟩ := S6.out.zeros; clear bb)))
      go_upto_region 11 with (first | (go_at_call 35; ((with_reducible refine (CGT.out _ S6.out.bel).mono ?_); rintro e W7 ⟨xa, xn, xc, rfl, bb⟩; have S7 := Lib.hid (S6.out.below bb); clear a0 a1 a2 a3 b0 b1 b2 b3 c0 c1 c2 c3 d0 d1 d2 d3 f0 f1 f2 f3 g0 g1 g2 g3; obtain ⟨⟨a0, a1, a2, a3⟩, b0, b1, b2, b3⟩ := S7.out.facts; obtain ⟨⟨⟨c0, f0⟩, ⟨c1, f1⟩, ⟨c2, f2⟩, c3, f3⟩, ⟨d0, g0⟩, ⟨d1, g1⟩, ⟨d2, g2⟩, d3, g3⟩ := S7.out.zeros; clear bb)))
      go_region
      all_goals
        go_wp2
        refine post_gen fun W9 hW9 => ?_
        have hr' := S7.out.res9 rfl (.inr hW9)
        clear hW9
        obtain ⟨⟨z0, z1, z2, z3⟩, y0, y1, y2, y3⟩ := kk2 hr'.1 hr'.2.1
        clear a0 a1 a2 a3 b0 b1 b2 b3 c0 c1 c2 c3 d0 d1 d2 d3 f0 f1 f2 f3 g0 g1 g2 g3
        refine bodyPost_ret (v := .tuple #[.agg #[.int .i64 t.kind, .int .i64 t.num, .string t.name, .slice ao t.args.length cc], .agg #[.int .i64 trueT.kind, .int .i64 trueT.num, .string trueT.name, .slice none 0 0], .int .i64 0]) (by simp [results, Try.results40, go_sem, z0, z1, z2, z3, y0, y1, y2, y3]; try rfl) rfl ?_
        unfold RetSplit
        rw [split_good (by rw [HH.out]; exact E9.out) (by rw [HB.out]; exact rfl), HH.out, HB.out]
        exact ⟨_, _, none, 0, rfl, later_of S7.out.th hr'.2.2, later_of S7.out.tb hr'.2.2, hr'.2.2⟩
    · have E9 := Lib.hid e9
      rw [e1] at CNH
      rw [e2] at CTH
      clear e1 e9 e2
      go_upto_region 8 with (first | (go_at_call 38; ((with_reducible refine (CNH.out _).mono ?_); rintro e W5 ⟨rfl, bb⟩; have S5 := Lib.hid (S1.out.below bb); clear a0 a1 a2 a3 b0 b1 b2 b3 c0 c1 c2 c3 d0 d1 d2 d3 f0 f1 f2 f3 g0 g1 g2 g3; obtain ⟨⟨a0, a1, a2, a3⟩, b0, b1, b2, b3⟩ := S5.out.facts; obtain ⟨⟨⟨c0, f0⟩, ⟨c1, f1⟩, ⟨c2, f2⟩, c3, f3⟩, ⟨d0, g0⟩, ⟨d1, g1⟩, ⟨d2, g2⟩, d3, g3⟩ := S5.out.zeros; clear bb)) | (go_at_call 43; ((with_reducible refine (CTH.out _).mono ?_); rintro e W6 ⟨rfl, bb⟩; have S6 := Lib.hid (S5.out.below bb); clear a0 a1 a2 a3 b0 b1 b2 b3 c0 c1 c2 c3 d0 d1 d2 d3 f0 f1 f2 f3 g0 g1 g2 g3; obtain ⟨⟨a0, a1, a2, a3⟩, b0, b1, b2, b3⟩ := S6.out.facts; obtain ⟨⟨⟨c0, f0⟩, ⟨c1, f1⟩, ⟨c2, f2⟩, c3, f3⟩, ⟨d0, g0⟩, ⟨d1, g1⟩, ⟨d2, g2⟩, d3, g3⟩ := S6.out.zeros; clear bb)))
      go_upto_region 11 with (first | (go_at_call 35; ((with_reducible refine (CGT.out _ S6.out.bel).mono ?_); rintro e W7 ⟨xa, xn, xc, rfl, bb⟩; have S7 := Lib.hid (S6.out.below bb); clear a0 a1 a2 a3 b0 b1 b2 b3 c0 c1 c2 c3 d0 d1 d2 d3 f0 f1 f2 f3 g0 g1 g2 g3; obtain ⟨⟨a0, a1, a2, a3⟩, b0, b1, b2, b3⟩ := S7.out.facts; obtain ⟨⟨⟨c0, f0⟩, ⟨c1, f1⟩, ⟨c2, f2⟩, c3, f3⟩, ⟨d0, g0⟩, ⟨d1, g1⟩, ⟨d2, g2⟩, d3, g3⟩ := S7.out.zeros; clear bb)))
      go_region
      all_goals
        go_wp2
        refine post_gen fun W9 hW9 => ?_
        have hr' := S7.out.res9 rfl (.inr hW9)
        clear hW9
        obtain ⟨⟨z0, z1, z2, z3⟩, y0, y1, y2, y3⟩ := kk2 hr'.1 hr'.2.1
        clear a0 a1 a2 a3 b0 b1 b2 b3 c0 c1 c2 c3 d0 d1 d2 d3 f0 f1 f2 f3 g0 g1 g2 g3
        refine bodyPost_ret (v := .tuple #[.agg #[.int .i64 t.kind, .int .i64 t.num, .string t.name, .slice ao t.args.length cc], .agg #[.int .i64 trueT.kind, .int .i64 trueT.num, .string trueT.name, .slice none 0 0], .int .i64 0]) (by simp [results, Try.results40, go_sem, z0, z1, z2, z3, y0, y1, y2, y3]; try rfl) rfl ?_
        unfold RetSplit
        rw [split_good (by rw [HH.out]; exact E9.out) (by rw [HB.out]; exact rfl), HH.out, HB.out]
        exact ⟨_, _, none, 0, rfl, later_of S7.out.th hr'.2.2, later_of S7.out.tb hr'.2.2, hr'.2.2⟩
end Go.Proofs.Ytmffobadnmkpbaa
namespace Go.Proofs.Ytmffobadnmkpbaa
open Go.RowKit

theorem wp_gen {P : Program} {c : Code} {Q : Exit → Act → World → Prop} {a : Act} {W' : World} (h : ∀ W9, W9 = W' → c.wp P Q a W9) : c.wp P Q a W' := h _ rfl
theorem SB.drew {w W : World} {x y : List Value} {hd bd : Tm} {ha ba : Value} (H : SB w W x y hd bd ha ba) : SB w W.drew x y hd bd ha ba :=
  ⟨H.z1.drew, H.z2.drew, H.hb.drew, H.bb.drew, H.bel.drew, H.sz, H.th, H.tb⟩
theorem SB.store9 {w W W9 : World} {hd bd hd' bd' : Tm} {ha ba ha' ba' : Value} (H : SB w W zero4 zero4 hd bd ha ba) (h1 : TmAt (fun b => b < w.heap.size) w hd' ha') (h2 : TmAt (fun b => b < w.heap.size) w bd' ba') {X : World}
    (hX : X = ((((((((W.setCell ⟨w.heap.size + 1 + 1 + 1, 0, none⟩ (.int .i64 hd'.kind)).setCell ⟨w.heap.size + 1 + 1 + 1, 1, none⟩ (.int .i64 hd'.num)).setCell ⟨w.heap.size + 1 + 1 + 1, 2, none⟩ (.string hd'.name)).setCell ⟨w.heap.size + 1 + 1 + 1, 3, none⟩ ha').setCell ⟨w.heap.size + 1 + 1 + 1 + 1, 0, none⟩ (.int .i64 bd'.kind)).setCell ⟨w.heap.size + 1 + 1 + 1 + 1, 1, none⟩ (.int .i64 bd'.num)).setCell ⟨w.heap.size + 1 + 1 + 1 + 1, 2, none⟩ (.string bd'.name)).setCell ⟨w.heap.size + 1 + 1 + 1 + 1, 3, none⟩ ba')) (h9 : W9 = X ∨ W9 = X.drew) :
    SB w W9 zero4 zero4 hd' bd' ha' ba' := by
  have h : SB w X zero4 zero4 hd' bd' ha' ba' := by rw [hX]; exact H.store h1 h2
  rcases h9 with rfl | rfl
  · exact h
  · exact h.drew
theorem SB.frees {w W : World} {hd bd : Tm} {ha ba : Value} (H : SB w W zero4 zero4 hd bd ha ba) :
    (W.frozen? ⟨w.heap.size + 1 + 1 + 1, 0, none⟩ = false ∧ W.frozen? ⟨w.heap.size + 1 + 1 + 1, 1, none⟩ = false ∧ W.frozen? ⟨w.heap.size + 1 + 1 + 1, 2, none⟩ = false ∧ W.frozen? ⟨w.heap.size + 1 + 1 + 1, 3, none⟩ = false) ∧
    (W.frozen? ⟨w.heap.size + 1 + 1 + 1 + 1, 0, none⟩ = false ∧ W.frozen? ⟨w.heap.size + 1 + 1 + 1 + 1, 1, none⟩ = false ∧ W.frozen? ⟨w.heap.size + 1 + 1 + 1 + 1, 2, none⟩ = false ∧ W.frozen? ⟨w.heap.size + 1 + 1 + 1 + 1, 3, none⟩ = false) :=
  ⟨⟨(H.hb.get 0 rfl).2, (H.hb.get 1 rfl).2, (H.hb.get 2 rfl).2, (H.hb.get 3 rfl).2⟩, ⟨(H.bb.get 0 rfl).2, (H.bb.get 1 rfl).2, (H.bb.get 2 rfl).2, (H.bb.get 3 rfl).2⟩⟩
theorem start_box (w : World) (t : Tm) (a : Value) (T : TypeId) (o1 o2 o3 o4 : Obj) : BoxL (((((w.alloc (.cells #[.int .i64 t.kind, .int .i64 t.num, .string t.name, a] T)).alloc o1).alloc o2).alloc o3).alloc o4) w.heap.size (cells4 t a) := by
  have al : ∀ (W : World) (o : Obj) (B : Nat), B ≤ W.heap.size → Below B W (W.alloc o) := fun W o B h => (Below.refl B W).alloc h o
  have b0 := BoxL.mk' w #[.int .i64 t.kind, .int .i64 t.num, .string t.name, a] T
  exact (((b0.below (al _ _ (w.heap.size + 1) (by simp)) (by omega)).below (al _ _ (w.heap.size + 1) (by simp)) (by omega)).below (al _ _ (w.heap.size + 1) (by simp)) (by omega)).below (al _ _ (w.heap.size + 1) (by simp)) (by omega)

set_option maxRecDepth 100000 in
set_option maxHeartbeats 6400000 in
theorem split_clause (t : Tm) (ao : Option Addr) (cc : Nat) (w : World) (ht' : TmAt (fun b => b < w.heap.size) w t (.slice ao t.args.length cc)) (hok : t.ok) (hn : t.size ≤ 100000) (hc : t.is [58, 45] 2 = true) :
    Calls Try.prog 40 #[.agg #[.int .i64 t.kind, .int .i64 t.num, .string t.name, .slice ao t.args.length cc]] w (RetSplit t w) := by
  obtain ⟨x, y, hxy⟩ : ∃ x y, t.args = [x, y] := by
    have hl : t.args.length = 2 := by simp only [Tm.is, Bool.and_eq_true] at hc; exact of_decide_eq_true hc.2
    match h : t.args, hl with
    | [x, y], _ => exact ⟨x, y, rfl⟩
  have hk : t.kind = 4 := by
    by_cases h : t.kind = 4
    · exact h
    · have := Tm.args_kind h; rw [hxy] at this; simp at this
  have hl2 : t.args.length = 2 := by rw [hxy]; rfl
  have hh : headT t = x := by simp [headT, hc, nthT, hxy]
  have hb : bodyT t = y := by simp [bodyT, hc, nthT, hxy]
  have hoy : y.ok := Tm.ok_args hok y (by rw [hxy]; simp)
  have hsy : y.size ≤ 100000 := by have := Tm.args_size (t := t) (u := y) (by rw [hxy]; simp); omega
  obtain ⟨b1, off, a0', hao, hpb, hcx, htx⟩ := (show ∃ b off a, ao = some ⟨b, off, none⟩ ∧ b < w.heap.size ∧ CellsT w b (off + 0 * 4) x a ∧ TmAt (fun b => b < w.heap.size) w x a by
    obtain ⟨b, off, a, h1, _, h2, h3, h4⟩ := ht'.arg 0 (by omega)
    have e : t.args[0] = x := by simp [hxy]
    rw [e] at h3 h4
    exact ⟨b, off, a, h1, h2, h3, h4⟩)
  obtain ⟨b', off', a1', hao', hcy, hty⟩ := (show ∃ b off a, ao = some ⟨b, off, none⟩ ∧ CellsT w b (off + 1 * 4) y a ∧ TmAt (fun b => b < w.heap.size) w y a by
    obtain ⟨b, off, a, h1, _, h2, h3, h4⟩ := ht'.arg 1 (by omega)
    have e : t.args[1] = y := by simp [hxy]
    rw [e] at h3 h4
    exact ⟨b, off, a, h1, h3, h4⟩)
  subst hao
  simp only [Option.some.injEq, Addr.mk.injEq, and_true] at hao'
  obtain ⟨rfl, rfl⟩ := hao'
  obtain ⟨p0, q0, rfl, _⟩ := htx.shape
  obtain ⟨p1, q1, rfl, _⟩ := hty.shape
  simp only [Nat.zero_mul, Nat.add_zero, Nat.one_mul] at hcx hcy
  have m1 : (t.name.toList == [58, 45]) = true := by simp only [Tm.is, Bool.and_eq_true] at hc; exact hc.1
  have S0 := Lib.hid (SB.start w (.cells #[.int .i64 t.kind, .int .i64 t.num, .string t.name, .slice (some ⟨b1, off, none⟩) t.args.length cc] 24) t _ 24 ht')
  have X0 := Lib.hid (start_box w t (.slice (some ⟨b1, off, none⟩) t.args.length cc) 24 (.cells #[.int .i64 0, .int .i64 0, .string ⟨#[]⟩, .slice none 0 0] 24) (.cells #[.int .i64 0, .int .i64 0, .string ⟨#[]⟩, .slice none 0 0] 24) (.cells #[.int .i64 t.kind, .int .i64 t.num, .string t.name, .slice (some ⟨b1, off, none⟩) t.args.length cc] 24) (.cells #[.int .i64 3, .int .i64 0, .string ⟨#[116, 114, 117, 101]⟩, .slice none 0 0] 24))
  have CN := Lib.hid (fun W => normName_c t (some ⟨b1, off, none⟩) cc W)
  have CGTrue : Hid (y.callable = true → ∀ W, Below w.heap.size w W → Calls Try.prog 35 #[.agg #[.int .i64 y.kind, .int .i64 y.num, .string y.name, .slice p1 y.args.length q1]] W fun e w' => ∃ a n c, e = .returned (.tuple #[.slice a n c, .int .i64 0]) ∧ Below W.heap.size W w') := fun hcl W hW => (goals_c y _ W (later_of hty hW) hoy hsy).mono fun e w' h => by
    have h' : RetGoals y W e w' := h
    simp only [RetGoals, hcl, if_true] at h'
    obtain ⟨a, c, Lv, h1, _, _, h4⟩ := h'
    exact ⟨a, Lv.length, c, h1, h4⟩
  have CGFalse : Hid (y.callable = false → ∀ W, Below w.heap.size w W → Calls Try.prog 35 #[.agg #[.int .i64 y.kind, .int .i64 y.num, .string y.name, .slice p1 y.args.length q1]] W fun e w' => e = .returned (.tuple #[.slice none 0 0, .int .i64 101]) ∧ Below W.heap.size W w') := fun hcl W hW => (goals_c y _ W (later_of hty hW) hoy hsy).mono fun e w' h => by
    have h' : RetGoals y W e w' := h
    simp only [RetGoals, hcl, Bool.false_eq_true, if_false] at h'
    exact h'
  have HTX := Lib.hid htx
  have HTY := Lib.hid hty
  have HXC := Lib.hid hcx
  have HYC := Lib.hid hcy
  have HH := Lib.hid hh
  have HB := Lib.hid hb
  rw [hl2] at S0 X0 CN ⊢
  rw [hk] at S0 X0 CN ⊢
  clear hc hh hb ht' hoy hsy htx hty hcx hcy hxy hok hn
  go_enter Try.func40, Try.ntmps40
  go_upto_region 4 with (first
    | (go_at_call 38; ((with_reducible refine (CN.out _).mono ?_); rintro e W1 ⟨rfl, bb⟩; have S1 := Lib.hid (S0.out.below bb); have X1 := Lib.hid (X0.out.block (bb.block _ (X0.out.lt (by simp [cells4])))); clear bb)))
  obtain ⟨w0, w1, w2, w3⟩ := kk4' X1.out
  have kx := HXC.out.block (S1.out.bel.block _ hpb)
  have ky := HYC.out.block (S1.out.bel.block _ hpb)
  obtain ⟨x0, x1, x2, x3⟩ := kx
  obtain ⟨y0, y1, y2, y3⟩ := ky
  obtain ⟨⟨a0, a1, a2, a3⟩, b0, b1, b2, b3⟩ := S1.out.facts
  obtain ⟨⟨⟨c0, f0⟩, ⟨c1, f1⟩, ⟨c2, f2⟩, c3, f3⟩, ⟨d0, g0⟩, ⟨d1, g1⟩, ⟨d2, g2⟩, d3, g3⟩ := S1.out.zeros
  obtain ⟨⟨u0, u1, u2, u3⟩, v0, v1, v2, v3⟩ := S1.out.frees
  clear S0 CN X0
  go_region
  all_goals
    go_upto_region 5 with (fail)
    refine wp_gen fun W4 hW4 => ?_
    have S1 := Lib.hid (S1.out.store9 HTX.out HTY.out rfl (.inr hW4))
    clear hW4 w0 w1 w2 w3 x0 x1 x2 x3 y0 y1 y2 y3 u0 u1 u2 u3 v0 v1 v2 v3 a0 a1 a2 a3 b0 b1 b2 b3 c0 c1 c2 c3 d0 d1 d2 d3 f0 f1 f2 f3 g0 g1 g2 g3
    obtain ⟨⟨a0, a1, a2, a3⟩, b0, b1, b2, b3⟩ := S1.out.facts
    obtain ⟨⟨⟨c0, f0⟩, ⟨c1, f1⟩, ⟨c2, f2⟩, c3, f3⟩, ⟨d0, g0⟩, ⟨d1, g1⟩, ⟨d2, g2⟩, d3, g3⟩ := S1.out.zeros
    clear m1
    have CNH := Lib.hid (fun W => normName_c x p0 q0 W)
    have CTH := Lib.hid (fun W => control_c x p0 q0 W)
    rcases bad_cases x with ⟨e1, e9⟩ | ⟨e1, e2, e9⟩ | ⟨e1, e2, e3, e4, e9⟩ | ⟨e1, e2, e3, e4, e5, e9⟩ | ⟨e1, e2, e3, e4, e5, e9⟩ | ⟨e1, e2, e3, e9⟩
    · have E9 := Lib.hid e9
      rw [e1] at CNH
      clear e1 e9
      go_wp2_with (first | (go_at_call 38; ((with_reducible refine (CNH.out _).mono ?_); rintro e W5 ⟨rfl, bb⟩; have S5 := Lib.hid (S1.out.below bb); clear a0 a1 a2 a3 b0 b1 b2 b3 c0 c1 c2 c3 d0 d1 d2 d3 f0 f1 f2 f3 g0 g1 g2 g3; obtain ⟨⟨a0, a1, a2, a3⟩, b0, b1, b2, b3⟩ := S5.out.facts; obtain ⟨⟨⟨c0, f0⟩, ⟨c1, f1⟩, ⟨c2, f2⟩, c3, f3⟩, ⟨d0, g0⟩, ⟨d1, g1⟩, ⟨d2, g2⟩, d3, g3⟩ := S5.out.zeros; clear bb)))
      refine post_gen fun W9 hW9 => ?_
      have hr' := S5.out.res9 rfl (.inl hW9)
      clear hW9
      obtain ⟨⟨z0, z1, z2, z3⟩, y0, y1, y2, y3⟩ := kk2 hr'.1 hr'.2.1
      clear a0 a1 a2 a3 b0 b1 b2 b3 c0 c1 c2 c3 d0 d1 d2 d3 f0 f1 f2 f3 g0 g1 g2 g3
      refine bodyPost_ret (v := .tuple #[.agg #[.int .i64 0, .int .i64 0, .string ⟨#[]⟩, .slice none 0 0], .agg #[.int .i64 0, .int .i64 0, .string ⟨#[]⟩, .slice none 0 0], .int .i64 100]) (by simp [results, Try.results40, go_sem, z0, z1, z2, z3, y0, y1, y2, y3]; try rfl) rfl ?_
      unfold RetSplit
      rw [split_bad (by rw [HH.out]; exact E9.out)]
      exact ⟨none, 0, none, 0, rfl, .leaf rfl, .leaf rfl, hr'.2.2⟩
    · have E9 := Lib.hid e9
      rw [e1] at CNH
      rw [e2] at CTH
      clear e1 e9 e2
      go_wp2_with (first | (go_at_call 38; ((with_reducible refine (CNH.out _).mono ?_); rintro e W5 ⟨rfl, bb⟩; have S5 := Lib.hid (S1.out.below bb); clear a0 a1 a2 a3 b0 b1 b2 b3 c0 c1 c2 c3 d0 d1 d2 d3 f0 f1 f2 f3 g0 g1 g2 g3; obtain ⟨⟨a0, a1, a2, a3⟩, b0, b1, b2, b3⟩ := S5.out.facts; obtain ⟨⟨⟨c0, f0⟩, ⟨c1, f1⟩, ⟨c2, f2⟩, c3, f3⟩, ⟨d0, g0⟩, ⟨d1, g1⟩, ⟨d2, g2⟩, d3, g3⟩ := S5.out.zeros; clear bb)) | (go_at_call 43; ((with_reducible refine (CTH.out _).mono ?_); rintro e W6 ⟨rfl, bb⟩; have S6 := Lib.hid (S5.out.below bb); clear a0 a1 a2 a3 b0 b1 b2 b3 c0 c1 c2 c3 d0 d1 d2 d3 f0 f1 f2 f3 g0 g1 g2 g3; obtain ⟨⟨a0, a1, a2, a3⟩, b0, b1, b2, b3⟩ := S6.out.facts; obtain ⟨⟨⟨c0, f0⟩, ⟨c1, f1⟩, ⟨c2, f2⟩, c3, f3⟩, ⟨d0, g0⟩, ⟨d1, g1⟩, ⟨d2, g2⟩, d3, g3⟩ := S6.out.zeros; clear bb)))
      refine post_gen fun W9 hW9 => ?_
      have hr' := S6.out.res9 rfl (.inl hW9)
      clear hW9
      obtain ⟨⟨z0, z1, z2, z3⟩, y0, y1, y2, y3⟩ := kk2 hr'.1 hr'.2.1
      clear a0 a1 a2 a3 b0 b1 b2 b3 c0 c1 c2 c3 d0 d1 d2 d3 f0 f1 f2 f3 g0 g1 g2 g3
      refine bodyPost_ret (v := .tuple #[.agg #[.int .i64 0, .int .i64 0, .string ⟨#[]⟩, .slice none 0 0], .agg #[.int .i64 0, .int .i64 0, .string ⟨#[]⟩, .slice none 0 0], .int .i64 100]) (by simp [results, Try.results40, go_sem, z0, z1, z2, z3, y0, y1, y2, y3]; try rfl) rfl ?_
      unfold RetSplit
      rw [split_bad (by rw [HH.out]; exact E9.out)]
      exact ⟨none, 0, none, 0, rfl, .leaf rfl, .leaf rfl, hr'.2.2⟩
    · have E9 := Lib.hid e9
      rw [e1] at CNH
      rw [e2] at CTH
      clear e1 e9 e2
      go_wp2_with (first | (go_at_call 38; ((with_reducible refine (CNH.out _).mono ?_); rintro e W5 ⟨rfl, bb⟩; have S5 := Lib.hid (S1.out.below bb); clear a0 a1 a2 a3 b0 b1 b2 b3 c0 c1 c2 c3 d0 d1 d2 d3 f0 f1 f2 f3 g0 g1 g2 g3; obtain ⟨⟨a0, a1, a2, a3⟩, b0, b1, b2, b3⟩ := S5.out.facts; obtain ⟨⟨⟨c0, f0⟩, ⟨c1, f1⟩, ⟨c2, f2⟩, c3, f3⟩, ⟨d0, g0⟩, ⟨d1, g1⟩, ⟨d2, g2⟩, d3, g3⟩ := S5.out.zeros; clear bb)) | (go_at_call 43; ((with_reducible refine (CTH.out _).mono ?_); rintro e W6 ⟨rfl, bb⟩; have S6 := Lib.hid (S5.out.below bb); clear a0 a1 a2 a3 b0 b1 b2 b3 c0 c1 c2 c3 d0 d1 d2 d3 f0 f1 f2 f3 g0 g1 g2 g3; obtain ⟨⟨a0, a1, a2, a3⟩, b0, b1, b2, b3⟩ := S6.out.facts; obtain ⟨⟨⟨c0, f0⟩, ⟨c1, f1⟩, ⟨c2, f2⟩, c3, f3⟩, ⟨d0, g0⟩, ⟨d1, g1⟩, ⟨d2, g2⟩, d3, g3⟩ := S6.out.zeros; clear bb)))
      refine post_gen fun W9 hW9 => ?_
      have hr' := S6.out.res9 rfl (.inl hW9)
      clear hW9
      obtain ⟨⟨z0, z1, z2, z3⟩, y0, y1, y2, y3⟩ := kk2 hr'.1 hr'.2.1
      clear a0 a1 a2 a3 b0 b1 b2 b3 c0 c1 c2 c3 d0 d1 d2 d3 f0 f1 f2 f3 g0 g1 g2 g3
      refine bodyPost_ret (v := .tuple #[.agg #[.int .i64 0, .int .i64 0, .string ⟨#[]⟩, .slice none 0 0], .agg #[.int .i64 0, .int .i64 0, .string ⟨#[]⟩, .slice none 0 0], .int .i64 100]) (by simp [results, Try.results40, go_sem, z0, z1, z2, z3, y0, y1, y2, y3]; try rfl) rfl ?_
      unfold RetSplit
      rw [split_bad (by rw [HH.out]; exact E9.out)]
      exact ⟨none, 0, none, 0, rfl, .leaf rfl, .leaf rfl, hr'.2.2⟩
    · have E9 := Lib.hid e9
      rw [e1] at CNH
      rw [e2] at CTH
      clear e1 e9 e2
      go_wp2_with (first | (go_at_call 38; ((with_reducible refine (CNH.out _).mono ?_); rintro e W5 ⟨rfl, bb⟩; have S5 := Lib.hid (S1.out.below bb); clear a0 a1 a2 a3 b0 b1 b2 b3 c0 c1 c2 c3 d0 d1 d2 d3 f0 f1 f2 f3 g0 g1 g2 g3; obtain ⟨⟨a0, a1, a2, a3⟩, b0, b1, b2, b3⟩ := S5.out.facts; obtain ⟨⟨⟨c0, f0⟩, ⟨c1, f1⟩, ⟨c2, f2⟩, c3, f3⟩, ⟨d0, g0⟩, ⟨d1, g1⟩, ⟨d2, g2⟩, d3, g3⟩ := S5.out.zeros; clear bb)) | (go_at_call 43; ((with_reducible refine (CTH.out _).mono ?_); rintro e W6 ⟨rfl, bb⟩; have S6 := Lib.hid (S5.out.below bb); clear a0 a1 a2 a3 b0 b1 b2 b3 c0 c1 c2 c3 d0 d1 d2 d3 f0 f1 f2 f3 g0 g1 g2 g3; obtain ⟨⟨a0, a1, a2, a3⟩, b0, b1, b2, b3⟩ := S6.out.facts; obtain ⟨⟨⟨c0, f0⟩, ⟨c1, f1⟩, ⟨c2, f2⟩, c3, f3⟩, ⟨d0, g0⟩, ⟨d1, g1⟩, ⟨d2, g2⟩, d3, g3⟩ := S6.out.zeros; clear bb)))
      refine post_gen fun W9 hW9 => ?_
      have hr' := S6.out.res9 rfl (.inl hW9)
      clear hW9
      obtain ⟨⟨z0, z1, z2, z3⟩, y0, y1, y2, y3⟩ := kk2 hr'.1 hr'.2.1
      clear a0 a1 a2 a3 b0 b1 b2 b3 c0 c1 c2 c3 d0 d1 d2 d3 f0 f1 f2 f3 g0 g1 g2 g3
      refine bodyPost_ret (v := .tuple #[.agg #[.int .i64 0, .int .i64 0, .string ⟨#[]⟩, .slice none 0 0], .agg #[.int .i64 0, .int .i64 0, .string ⟨#[]⟩, .slice none 0 0], .int .i64 100]) (by simp [results, Try.results40, go_sem, z0, z1, z2, z3, y0, y1, y2, y3]; try rfl) rfl ?_
      unfold RetSplit
      rw [split_bad (by rw [HH.out]; exact E9.out)]
      exact ⟨none, 0, none, 0, rfl, .leaf rfl, .leaf rfl, hr'.2.2⟩
    · have E9 := Lib.hid e9
      rw [e1] at CNH
      rw [e2] at CTH
      clear e1 e9 e2
      go_upto_region 8 with (first | (go_at_call 38; ((with_reducible refine (CNH.out _).mono ?_); rintro e W5 ⟨rfl, bb⟩; have S5 := Lib.hid (S1.out.below bb); clear a0 a1 a2 a3 b0 b1 b2 b3 c0 c1 c2 c3 d0 d1 d2 d3 f0 f1 f2 f3 g0 g1 g2 g3; obtain ⟨⟨a0, a1, a2, a3⟩, b0, b1, b2, b3⟩ := S5.out.facts; obtain ⟨⟨⟨c0, f0⟩, ⟨c1, f1⟩, ⟨c2, f2⟩, c3, f3⟩, ⟨d0, g0⟩, ⟨d1, g1⟩, ⟨d2, g2⟩, d3, g3⟩ := S5.out.zeros; clear bb)) | (go_at_call 43; ((with_reducible refine (CTH.out _).mono ?_); rintro e W6 ⟨rfl, bb⟩; have S6 := Lib.hid (S5.out.below bb); clear a0 a1 a2 a3 b0 b1 b2 b3 c0 c1 c2 c3 d0 d1 d2 d3 f0 f1 f2 f3 g0 g1 g2 g3; obtain ⟨⟨a0, a1, a2, a3⟩, b0, b1, b2, b3⟩ := S6.out.facts; obtain ⟨⟨⟨c0, f0⟩, ⟨c1, f1⟩, ⟨c2, f2⟩, c3, f3⟩, ⟨d0, g0⟩, ⟨d1, g1⟩, ⟨d2, g2⟩, d3, g3⟩ := S6.out.zeros; clear bb)))
      cases hcl : y.callable with
      | true =>
        have HCL := Lib.hid hcl
        have CGT := Lib.hid (CGTrue.out hcl)
        clear hcl
        go_upto_region 11 with (first | (go_at_call 35; ((with_reducible refine (CGT.out _ S6.out.bel).mono ?_); rintro e W7 ⟨xa, xn, xc, rfl, bb⟩; have S7 := Lib.hid (S6.out.below bb); clear a0 a1 a2 a3 b0 b1 b2 b3 c0 c1 c2 c3 d0 d1 d2 d3 f0 f1 f2 f3 g0 g1 g2 g3; obtain ⟨⟨a0, a1, a2, a3⟩, b0, b1, b2, b3⟩ := S7.out.facts; obtain ⟨⟨⟨c0, f0⟩, ⟨c1, f1⟩, ⟨c2, f2⟩, c3, f3⟩, ⟨d0, g0⟩, ⟨d1, g1⟩, ⟨d2, g2⟩, d3, g3⟩ := S7.out.zeros; clear bb)))
        go_region
        all_goals
          go_wp2
          refine post_gen fun W9 hW9 => ?_
          have hr' := S7.out.res9 rfl (.inr hW9)
          clear hW9
          obtain ⟨⟨z0, z1, z2, z3⟩, y0, y1, y2, y3⟩ := kk2 hr'.1 hr'.2.1
          clear a0 a1 a2 a3 b0 b1 b2 b3 c0 c1 c2 c3 d0 d1 d2 d3 f0 f1 f2 f3 g0 g1 g2 g3
          refine bodyPost_ret (v := .tuple #[.agg #[.int .i64 x.kind, .int .i64 x.num, .string x.name, .slice p0 x.args.length q0], .agg #[.int .i64 y.kind, .int .i64 y.num, .string y.name, .slice p1 y.args.length q1], .int .i64 0]) (by simp [results, Try.results40, go_sem, z0, z1, z2, z3, y0, y1, y2, y3]; try rfl) rfl ?_
          unfold RetSplit
          rw [split_good (by rw [HH.out]; exact E9.out) (by rw [HB.out]; exact HCL.out), HH.out, HB.out]
          exact ⟨_, _, _, _, rfl, later_of S7.out.th hr'.2.2, later_of S7.out.tb hr'.2.2, hr'.2.2⟩
      | false =>
        have HCL := Lib.hid hcl
        have CGF := Lib.hid (CGFalse.out hcl)
        clear hcl
        go_wp2_with (first | (go_at_call 35; ((with_reducible refine (CGF.out _ S6.out.bel).mono ?_); rintro e W7 ⟨rfl, bb⟩; have S7 := Lib.hid (S6.out.below bb); clear a0 a1 a2 a3 b0 b1 b2 b3 c0 c1 c2 c3 d0 d1 d2 d3 f0 f1 f2 f3 g0 g1 g2 g3; obtain ⟨⟨a0, a1, a2, a3⟩, b0, b1, b2, b3⟩ := S7.out.facts; obtain ⟨⟨⟨c0, f0⟩, ⟨c1, f1⟩, ⟨c2, f2⟩, c3, f3⟩, ⟨d0, g0⟩, ⟨d1, g1⟩, ⟨d2, g2⟩, d3, g3⟩ := S7.out.zeros; clear bb)))
        refine post_gen fun W9 hW9 => ?_
        have hr' := S7.out.res9 rfl (.inl hW9)
        clear hW9
        obtain ⟨⟨z0, z1, z2, z3⟩, y0, y1, y2, y3⟩ := kk2 hr'.1 hr'.2.1
        clear a0 a1 a2 a3 b0 b1 b2 b3 c0 c1 c2 c3 d0 d1 d2 d3 f0 f1 f2 f3 g0 g1 g2 g3
        refine bodyPost_ret (v := .tuple #[.agg #[.int .i64 0, .int .i64 0, .string ⟨#[]⟩, .slice none 0 0], .agg #[.int .i64 0, .int .i64 0, .string ⟨#[]⟩, .slice none 0 0], .int .i64 101]) (by simp [results, Try.results40, go_sem, z0, z1, z2, z3, y0, y1, y2, y3]; try rfl) rfl ?_
        unfold RetSplit
        rw [split_call (by rw [HH.out]; exact E9.out) (by rw [HB.out]; exact HCL.out)]
        exact ⟨none, 0, none, 0, rfl, .leaf rfl, .leaf rfl, hr'.2.2⟩
    · have E9 := Lib.hid e9
      rw [e1] at CNH
      rw [e2] at CTH
      clear e1 e9 e2
      go_upto_region 8 with (first | (go_at_call 38; ((with_reducible refine (CNH.out _).mono ?_); rintro e W5 ⟨rfl, bb⟩; have S5 := Lib.hid (S1.out.below bb); clear a0 a1 a2 a3 b0 b1 b2 b3 c0 c1 c2 c3 d0 d1 d2 d3 f0 f1 f2 f3 g0 g1 g2 g3; obtain ⟨⟨a0, a1, a2, a3⟩, b0, b1, b2, b3⟩ := S5.out.facts; obtain ⟨⟨⟨c0, f0⟩, ⟨c1, f1⟩, ⟨c2, f2⟩, c3, f3⟩, ⟨d0, g0⟩, ⟨d1, g1⟩, ⟨d2, g2⟩, d3, g3⟩ := S5.out.zeros; clear bb)) | (go_at_call 43; ((with_reducible refine (CTH.out _).mono ?_); rintro e W6 ⟨rfl, bb⟩; have S6 := Lib.hid (S5.out.below bb); clear a0 a1 a2 a3 b0 b1 b2 b3 c0 c1 c2 c3 d0 d1 d2 d3 f0 f1 f2 f3 g0 g1 g2 g3; obtain ⟨⟨a0, a1, a2, a3⟩, b0, b1, b2, b3⟩ := S6.out.facts; obtain ⟨⟨⟨c0, f0⟩, ⟨c1, f1⟩, ⟨c2, f2⟩, c3, f3⟩, ⟨d0, g0⟩, ⟨d1, g1⟩, ⟨d2, g2⟩, d3, g3⟩ := S6.out.zeros; clear bb)))
      cases hcl : y.callable with
      | true =>
        have HCL := Lib.hid hcl
        have CGT := Lib.hid (CGTrue.out hcl)
        clear hcl
        go_upto_region 11 with (first | (go_at_call 35; ((with_reducible refine (CGT.out _ S6.out.bel).mono ?_); rintro e W7 ⟨xa, xn, xc, rfl, bb⟩; have S7 := Lib.hid (S6.out.below bb); clear a0 a1 a2 a3 b0 b1 b2 b3 c0 c1 c2 c3 d0 d1 d2 d3 f0 f1 f2 f3 g0 g1 g2 g3; obtain ⟨⟨a0, a1, a2, a3⟩, b0, b1, b2, b3⟩ := S7.out.facts; obtain ⟨⟨⟨c0, f0⟩, ⟨c1, f1⟩, ⟨c2, f2⟩, c3, f3⟩, ⟨d0, g0⟩, ⟨d1, g1⟩, ⟨d2, g2⟩, d3, g3⟩ := S7.out.zeros; clear bb)))
        go_region
        all_goals
          go_wp2
          refine post_gen fun W9 hW9 => ?_
          have hr' := S7.out.res9 rfl (.inr hW9)
          clear hW9
          obtain ⟨⟨z0, z1, z2, z3⟩, y0, y1, y2, y3⟩ := kk2 hr'.1 hr'.2.1
          clear a0 a1 a2 a3 b0 b1 b2 b3 c0 c1 c2 c3 d0 d1 d2 d3 f0 f1 f2 f3 g0 g1 g2 g3
          refine bodyPost_ret (v := .tuple #[.agg #[.int .i64 x.kind, .int .i64 x.num, .string x.name, .slice p0 x.args.length q0], .agg #[.int .i64 y.kind, .int .i64 y.num, .string y.name, .slice p1 y.args.length q1], .int .i64 0]) (by simp [results, Try.results40, go_sem, z0, z1, z2, z3, y0, y1, y2, y3]; try rfl) rfl ?_
          unfold RetSplit
          rw [split_good (by rw [HH.out]; exact E9.out) (by rw [HB.out]; exact HCL.out), HH.out, HB.out]
          exact ⟨_, _, _, _, rfl, later_of S7.out.th hr'.2.2, later_of S7.out.tb hr'.2.2, hr'.2.2⟩
      | false =>
        have HCL := Lib.hid hcl
        have CGF := Lib.hid (CGFalse.out hcl)
        clear hcl
        go_wp2_with (first | (go_at_call 35; ((with_reducible refine (CGF.out _ S6.out.bel).mono ?_); rintro e W7 ⟨rfl, bb⟩; have S7 := Lib.hid (S6.out.below bb); clear a0 a1 a2 a3 b0 b1 b2 b3 c0 c1 c2 c3 d0 d1 d2 d3 f0 f1 f2 f3 g0 g1 g2 g3; obtain ⟨⟨a0, a1, a2, a3⟩, b0, b1, b2, b3⟩ := S7.out.facts; obtain ⟨⟨⟨c0, f0⟩, ⟨c1, f1⟩, ⟨c2, f2⟩, c3, f3⟩, ⟨d0, g0⟩, ⟨d1, g1⟩, ⟨d2, g2⟩, d3, g3⟩ := S7.out.zeros; clear bb)))
        refine post_gen fun W9 hW9 => ?_
        have hr' := S7.out.res9 rfl (.inl hW9)
        clear hW9
        obtain ⟨⟨z0, z1, z2, z3⟩, y0, y1, y2, y3⟩ := kk2 hr'.1 hr'.2.1
        clear a0 a1 a2 a3 b0 b1 b2 b3 c0 c1 c2 c3 d0 d1 d2 d3 f0 f1 f2 f3 g0 g1 g2 g3
        refine bodyPost_ret (v := .tuple #[.agg #[.int .i64 0, .int .i64 0, .string ⟨#[]⟩, .slice none 0 0], .agg #[.int .i64 0, .int .i64 0, .string ⟨#[]⟩, .slice none 0 0], .int .i64 101]) (by simp [results, Try.results40, go_sem, z0, z1, z2, z3, y0, y1, y2, y3]; try rfl) rfl ?_
        unfold RetSplit
        rw [split_call (by rw [HH.out]; exact E9.out) (by rw [HB.out]; exact HCL.out)]
        exact ⟨none, 0, none, 0, rfl, .leaf rfl, .leaf rfl, hr'.2.2⟩
theorem split_c (t : Tm) (va : Value) (w : World) (ht : TmAt (fun _ => True) w t va) (hok : t.ok) (hn : t.size ≤ 100000) : Calls Try.prog 40 #[tmV t va] w (RetSplit t w) := by
  obtain ⟨ao, cc, rfl, _, _⟩ := ht.shape
  have ht' : TmAt (fun b => b < w.heap.size) w t (.slice ao t.args.length cc) := ht.mono fun b hb _ => ⟨hb, rfl⟩
  cases hc : t.is [58, 45] 2 with
  | true => exact split_clause t ao cc w ht' hok hn hc
  | false => exact split_fact t ao cc w ht' hc
end Go.Proofs.Ytmffobadnmkpbaa
