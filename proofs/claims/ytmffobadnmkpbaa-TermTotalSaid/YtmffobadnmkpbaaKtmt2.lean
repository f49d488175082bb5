/-
  The law TermTotal, walked.
-/
import Derived.Test.YtmffobadnmkpbaaKtmt1
namespace Go.Proofs.Ytmffobadnmkpbaa
open Go.RowKit

theorem cmpT_law : cmpT (.int 0) (.atom ⟨#[97]⟩) = -1 := by rw [cmpT_kind (by simp [Tm.kind])]; rfl
theorem box4 {w' : World} {b : Nat} {x0 x1 x2 x3 : Value} (h : BoxL w' b [x0, x1, x2, x3]) :
    w'.cell? ⟨b, 0, none⟩ = some x0 ∧ w'.cell? ⟨b, 1, none⟩ = some x1 ∧ w'.cell? ⟨b, 2, none⟩ = some x2 ∧ w'.cell? ⟨b, 3, none⟩ = some x3 := ⟨(h.get 0 rfl).1, (h.get 1 rfl).1, (h.get 2 rfl).1, (h.get 3 rfl).1⟩

theorem boxes3 (w : World) (a0 a1 a2 a3 b0 b1 b2 b3 c0 c1 c2 c3 : Value) (W' : World) (h : Below (w.heap.size + 3) (((w.alloc (.cells #[a0, a1, a2, a3] 24)).alloc (.cells #[b0, b1, b2, b3] 24)).alloc (.cells #[c0, c1, c2, c3] 24)) W') :
    BoxL W' w.heap.size [a0, a1, a2, a3] ∧ BoxL W' (w.heap.size + 1) [b0, b1, b2, b3] ∧ BoxL W' (w.heap.size + 1 + 1) [c0, c1, c2, c3] := by
  have e1 := BoxL.mk' (w.alloc (.cells #[a0, a1, a2, a3] 24)) #[b0, b1, b2, b3] 24
  rw [show (w.alloc (.cells #[a0, a1, a2, a3] 24)).heap.size = w.heap.size + 1 by simp] at e1
  have e2 := BoxL.mk' ((w.alloc (.cells #[a0, a1, a2, a3] 24)).alloc (.cells #[b0, b1, b2, b3] 24)) #[c0, c1, c2, c3] 24
  rw [show ((w.alloc (.cells #[a0, a1, a2, a3] 24)).alloc (.cells #[b0, b1, b2, b3] 24)).heap.size = w.heap.size + 1 + 1 by simp] at e2
  refine ⟨(((BoxL.mk' w #[a0, a1, a2, a3] 24).below ((Below.refl (w.heap.size + 1) _).alloc (by simp) _) (by omega)).below ((Below.refl (w.heap.size + 1) _).alloc (by simp) _) (by omega)).block (h.block _ (by omega)), (e1.below ((Below.refl (w.heap.size + 2) _).alloc (by simp) _) (by omega)).block (h.block _ (by omega)), e2.block (h.block _ (by omega))⟩
theorem below_3 (w : World) (o o2 o3 : Obj) : Below w.heap.size w (((w.alloc o).alloc o2).alloc o3) := (below_two w o o2).alloc (by simp; omega) o3

set_option maxRecDepth 100000 in
set_option maxHeartbeats 1600000 in
theorem termTotal_any (s : ByteArray) (w : World) : Calls Try.prog 4 #[.string s] w fun e w' => e = .returned (.bool true) ∧ Below w.heap.size w w' := by
  have CS := Lib.hid (some_c s w)
  go_enter Try.func4, Try.ntmps4
  go_upto_region 2 with (first | (go_at_call 22; ((with_reducible refine CS.out.mono ?_); rintro e W1 ⟨v, l, rfl, ts, hl, hll, b1⟩; obtain ⟨va, vc, rfl, _⟩ := ts.shape; have TS := Lib.hid ts; have HL := Lib.hid hl; have B1 := Lib.hid b1; clear ts hl b1)))
  clear CS
  by_cases h3 : l.length < 3
  · have CT : Hid (∀ W, Calls Try.prog 23 #[.agg #[.int .i64 2, .int .i64 0, .string ByteArray.empty, .slice none 0 0], .agg #[.int .i64 3, .int .i64 0, .string ⟨#[97]⟩, .slice none 0 0]] W fun e w' => e = .returned (.int .i64 (-1)) ∧ Below W.heap.size W w') := fun W => by
      have := compareT_c (.int 0) (.atom ⟨#[97]⟩) (.slice none 0 0) (.slice none 0 0) W (.leaf rfl) (.leaf rfl)
      rw [cmpT_law] at this
      exact this
    go_wp2_with (first | (go_at_call 23; ((refine (CT.out _).mono ?_); rintro e W2 ⟨rfl, bb⟩; have BB := Lib.hid bb; clear bb)))
    go_ret
    exact ⟨rfl, B1.out.trans (BB.out.mono B1.out.size)⟩
  · obtain ⟨b, off, v0, rfl, -, c0, t0⟩ := TS.out.get 0 (by omega)
    obtain ⟨b', off', v1, he, -, c1, t1⟩ := TS.out.get 1 (by omega)
    obtain ⟨b'', off'', v2, he2, -, c2, t2⟩ := TS.out.get 2 (by omega)
    simp only [Option.some.injEq, Addr.mk.injEq, and_true] at he he2
    obtain ⟨rfl, rfl⟩ := he
    obtain ⟨rfl, rfl⟩ := he2
    obtain ⟨p0, q0, rfl, _⟩ := t0.shape
    obtain ⟨p1, q1, rfl, _⟩ := t1.shape
    obtain ⟨p2, q2, rfl, _⟩ := t2.shape
    generalize l[0] = a at *
    generalize l[1] = u at *
    generalize l[2] = c at *
    have hx := sg_cmpT a u
    have hy := sg_cmpT u c
    have hz := sg_cmpT a c
    have h3 := t3_cmpT a u c
    have CX : Hid (∀ W, Below W1.heap.size W1 W → Calls Try.prog 23 #[.agg #[.int .i64 a.kind, .int .i64 a.num, .string a.name, .slice p0 a.args.length q0], .agg #[.int .i64 u.kind, .int .i64 u.num, .string u.name, .slice p1 u.args.length q1]] W fun e w' => e = .returned (.int .i64 (cmpT a u)) ∧ Below W.heap.size W w') := fun W h => compareT_c a u _ _ W (t0.later h) (t1.later h)
    have CY : Hid (∀ W, Below W1.heap.size W1 W → Calls Try.prog 23 #[.agg #[.int .i64 u.kind, .int .i64 u.num, .string u.name, .slice p1 u.args.length q1], .agg #[.int .i64 c.kind, .int .i64 c.num, .string c.name, .slice p2 c.args.length q2]] W fun e w' => e = .returned (.int .i64 (cmpT u c)) ∧ Below W.heap.size W w') := fun W h => compareT_c u c _ _ W (t1.later h) (t2.later h)
    have CZ : Hid (∀ W, Below W1.heap.size W1 W → Calls Try.prog 23 #[.agg #[.int .i64 a.kind, .int .i64 a.num, .string a.name, .slice p0 a.args.length q0], .agg #[.int .i64 c.kind, .int .i64 c.num, .string c.name, .slice p2 c.args.length q2]] W fun e w' => e = .returned (.int .i64 (cmpT a c)) ∧ Below W.heap.size W w') := fun W h => compareT_c a c _ _ W (t0.later h) (t2.later h)
    have CR : Hid (∀ W, Below W1.heap.size W1 W → Calls Try.prog 24 #[.agg #[.int .i64 a.kind, .int .i64 a.num, .string a.name, .slice p0 a.args.length q0], .agg #[.int .i64 u.kind, .int .i64 u.num, .string u.name, .slice p1 u.args.length q1]] W fun e w' => e = .returned (.int .i64 (cmpT a u)) ∧ Below W.heap.size W w') := fun W h => refCompareT_c a u _ _ W (t0.later h) (t1.later h)
    generalize cmpT a u = x at *
    generalize cmpT u c = y at *
    generalize cmpT a c = z at *
    have HX := Lib.hid hx
    have HY := Lib.hid hy
    have HZ := Lib.hid hz
    have H3 := Lib.hid h3
    have hb1 := c0.lt
    obtain ⟨x0, x1, x2, x3⟩ := c0
    obtain ⟨y0, y1, y2, y3⟩ := c1
    obtain ⟨z0, z1, z2, z3⟩ := c2
    simp only [Nat.zero_mul, Nat.add_zero, Nat.one_mul, Nat.add_assoc, Nat.reduceMul, Nat.reduceAdd] at x0 x1 x2 x3 y0 y1 y2 y3 z0 z1 z2 z3
    clear hx hy hz h3 t0 t1 t2
    go_upto_region 7 with (fail)
    have HB := Lib.hid (boxes3 W1 (.int .i64 a.kind) (.int .i64 a.num) (.string a.name) (.slice p0 a.args.length q0) (.int .i64 u.kind) (.int .i64 u.num) (.string u.name) (.slice p1 u.args.length q1) (.int .i64 c.kind) (.int .i64 c.num) (.string c.name) (.slice p2 c.args.length q2))
    have P3 := Lib.hid (below_3 W1 (.cells #[.int .i64 a.kind, .int .i64 a.num, .string a.name, .slice p0 a.args.length q0] 24) (.cells #[.int .i64 u.kind, .int .i64 u.num, .string u.name, .slice p1 u.args.length q1] 24) (.cells #[.int .i64 c.kind, .int .i64 c.num, .string c.name, .slice p2 c.args.length q2] 24))
    have hf : ∀ W, Below W1.heap.size (((W1.alloc (.cells #[.int .i64 a.kind, .int .i64 a.num, .string a.name, .slice p0 a.args.length q0] 24)).alloc (.cells #[.int .i64 u.kind, .int .i64 u.num, .string u.name, .slice p1 u.args.length q1] 24)).alloc (.cells #[.int .i64 c.kind, .int .i64 c.num, .string c.name, .slice p2 c.args.length q2] 24)) W → True := fun _ _ => trivial
    clear hf x0 x1 x2 x3 y0 y1 y2 y3 z0 z1 z2 z3
    go_upto_region 8 with (first | (go_at_call 23; refine (CX.out _ P3.out).mono ?_; rintro e W4 ⟨rfl, bb⟩; have P4 := Lib.hid (P3.out.trans (bb.mono P3.out.size)); have Q4 := Lib.hid (Below.mono bb (show W1.heap.size + 3 ≤ _ by simp)); clear bb))
    obtain ⟨f1, f2, f3⟩ := HB.out _ Q4.out
    obtain ⟨x0, x1, x2, x3⟩ := box4 f1
    obtain ⟨y0, y1, y2, y3⟩ := box4 f2
    obtain ⟨z0, z1, z2, z3⟩ := box4 f3
    clear f1 f2 f3
    have hs4 := Q4.out.size
    simp only [World.size_alloc] at hs4
    go_upto_region 9 with (first | (go_at_call 23; refine (CY.out _ P4.out).mono ?_; rintro e W5 ⟨rfl, bb⟩; have P5 := Lib.hid (P4.out.trans (bb.mono P4.out.size)); have Q5 := Lib.hid (Q4.out.trans (Below.mono bb (show W1.heap.size + 3 ≤ _ by omega))); clear bb))
    clear x0 x1 x2 x3 y0 y1 y2 y3 z0 z1 z2 z3
    obtain ⟨f1, f2, f3⟩ := HB.out _ Q5.out
    obtain ⟨x0, x1, x2, x3⟩ := box4 f1
    obtain ⟨y0, y1, y2, y3⟩ := box4 f2
    obtain ⟨z0, z1, z2, z3⟩ := box4 f3
    clear f1 f2 f3
    have hs5 := Q5.out.size
    simp only [World.size_alloc] at hs5
    go_upto_region 10 with (first | (go_at_call 23; refine (CZ.out _ P5.out).mono ?_; rintro e W6 ⟨rfl, bb⟩; have P6 := Lib.hid (P5.out.trans (bb.mono P5.out.size)); have Q6 := Lib.hid (Q5.out.trans (Below.mono bb (show W1.heap.size + 3 ≤ _ by omega))); clear bb))
    clear x0 x1 x2 x3 y0 y1 y2 y3 z0 z1 z2 z3
    obtain ⟨f1, f2, f3⟩ := HB.out _ Q6.out
    obtain ⟨x0, x1, x2, x3⟩ := box4 f1
    obtain ⟨y0, y1, y2, y3⟩ := box4 f2
    obtain ⟨z0, z1, z2, z3⟩ := box4 f3
    clear f1 f2 f3
    go_upto_region 12 with (first | (go_at_call 24; refine (CR.out _ P6.out).mono ?_; rintro e W7 ⟨rfl, bb⟩; have P7 := Lib.hid (P6.out.trans (bb.mono P6.out.size)); clear bb))
    clear x0 x1 x2 x3 y0 y1 y2 y3 z0 z1 z2 z3
    have hxyz : (x = 1 ∨ y = 1 ∨ (z ≤ 0 ∧ (z < 0 ↔ x < 0 ∨ y < 0))) := by
      have h3 := H3.out
      have h1 := HX.out
      have h2 := HY.out
      unfold T3 at h3
      unfold Sg at h1 h2
      by_cases e1 : x = 1
      · exact .inl e1
      · by_cases e2 : y = 1
        · exact .inr (.inl e2)
        · exact .inr (.inr (h3 (by omega) (by omega)))
    obtain h1 | h1 | h1 := HX.out <;> obtain h2 | h2 | h2 := HY.out <;> obtain h4 | h4 | h4 := HZ.out <;> subst h1 <;> subst h2 <;> subst h4 <;> first
      | (exfalso; revert hxyz; decide)
      | (clear hxyz; go_wp2; go_ret; exact ⟨rfl, B1.out.trans (P7.out.mono B1.out.size)⟩)
end Go.Proofs.Ytmffobadnmkpbaa
