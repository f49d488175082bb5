/-
  coneyref07.Variant, walked.
  The law TermOrders, walked.
-/
import Derived.Test.YtmffobadnmkpbaaKtmo5
import Derived.Test.YtmffobadnmkpbaaKtmo1
import Derived.Test.YtmffobadnmkpbaaKtmo4
namespace Go.Proofs.Ytmffobadnmkpbaa
open Go.RowKit

theorem kk4w {W : World} {b : Nat} {x0 x1 x2 x3 : Value} (h : BoxL W b [x0, x1, x2, x3]) : W.cell? ⟨b, 0, none⟩ = some x0 ∧ W.cell? ⟨b, 1, none⟩ = some x1 ∧ W.cell? ⟨b, 2, none⟩ = some x2 ∧ W.cell? ⟨b, 3, none⟩ = some x3 := ⟨(h.get 0 rfl).1, (h.get 1 rfl).1, (h.get 2 rfl).1, (h.get 3 rfl).1⟩
set_option maxRecDepth 100000 in
set_option maxHeartbeats 3200000 in
theorem rvariant_c (t u : Tm) (va vb : Value) (w : World) (ha : TmAt (fun _ => True) w t va) (hb : TmAt (fun _ => True) w u vb) (hoa : t.ok) (hob : u.ok) (hn : t.size ≤ 1000000) (hm : u.size ≤ 1000000) :
    Calls Try.prog 30 #[tmV t va, tmV u vb] w fun e w' => e = .returned (.bool (decide (cmpT (numT t.vars t) (numT u.vars u) = 0))) ∧ Below w.heap.size w w' := by
  obtain ⟨p1, q1, rfl, _, _⟩ := ha.shape
  obtain ⟨p2, q2, rfl, _, _⟩ := hb.shape
  have al : ∀ (W : World) (o : Obj) (B : Nat), B ≤ W.heap.size → Below B W (W.alloc o) := fun W o B h => (Below.refl B W).alloc h o
  obtain ⟨V, hV⟩ : ∃ V, V = ((w.alloc (.cells #[.int .i64 t.kind, .int .i64 t.num, .string t.name, .slice p1 t.args.length q1] 24)).alloc (.cells #[.int .i64 u.kind, .int .i64 u.num, .string u.name, .slice p2 u.args.length q2] 24)) := ⟨_, rfl⟩
  have BV : Hid (Below w.heap.size w V) := by rw [hV]; exact (al _ _ _ (Nat.le_refl _)).trans (al _ _ _ (by simp))
  have X4 : BoxL V w.heap.size [.int .i64 t.kind, .int .i64 t.num, .string t.name, .slice p1 t.args.length q1] := by rw [hV]; exact (BoxL.mk' w #[.int .i64 t.kind, .int .i64 t.num, .string t.name, .slice p1 t.args.length q1] 24).below (al _ _ (w.heap.size + 1) (by simp)) (by omega)
  have X5 : BoxL V (w.heap.size + 1) [.int .i64 u.kind, .int .i64 u.num, .string u.name, .slice p2 u.args.length q2] := by
    rw [hV]
    have h := BoxL.mk' (w.alloc (.cells #[.int .i64 t.kind, .int .i64 t.num, .string t.name, .slice p1 t.args.length q1] 24)) #[.int .i64 u.kind, .int .i64 u.num, .string u.name, .slice p2 u.args.length q2] 24
    simp only [World.size_alloc] at h
    exact h
  have KS : Hid (∀ W, Below V.heap.size V W → (W.cell? ⟨w.heap.size, 0, none⟩ = some (.int .i64 t.kind) ∧ W.cell? ⟨w.heap.size, 1, none⟩ = some (.int .i64 t.num) ∧ W.cell? ⟨w.heap.size, 2, none⟩ = some (.string t.name) ∧ W.cell? ⟨w.heap.size, 3, none⟩ = some (.slice p1 t.args.length q1) ∧ W.cell? ⟨w.heap.size + 1, 0, none⟩ = some (.int .i64 u.kind) ∧ W.cell? ⟨w.heap.size + 1, 1, none⟩ = some (.int .i64 u.num) ∧ W.cell? ⟨w.heap.size + 1, 2, none⟩ = some (.string u.name) ∧ W.cell? ⟨w.heap.size + 1, 3, none⟩ = some (.slice p2 u.args.length q2))) := fun W h => by
    have k4 := kk4w (X4.below h (X4.lt (by simp)))
    have k5 := kk4w (X5.below h (X5.lt (by simp)))
    exact ⟨k4.1, k4.2.1, k4.2.2.1, k4.2.2.2, k5.1, k5.2.1, k5.2.2.1, k5.2.2.2⟩
  have hta : TmAt (fun _ => True) V t (.slice p1 t.args.length q1) := ha.later BV.out
  have htb : TmAt (fun _ => True) V u (.slice p2 u.args.length q2) := hb.later BV.out
  have htl := t.vars_len
  have hul := u.vars_len
  have C1 : Hid (∀ W, Below V.heap.size V W → Calls Try.prog 21 #[.agg #[.int .i64 t.kind, .int .i64 t.num, .string t.name, .slice p1 t.args.length q1]] W fun e w' => ∃ a c, e = .returned (.slice a t.vars.length c) ∧ IsAt w' (.slice a t.vars.length c) t.vars ∧ Below V.heap.size V w') := fun W h => (rvars_all t _ W (hta.later h) hoa hn).mono fun e w' ⟨a, c, h1, h2, h3⟩ => ⟨a, c, h1, IsAt.own h2, h.trans (h3.mono h.size)⟩
  have C2 : Hid (∀ W v, Below V.heap.size V W → IsAt W v t.vars → Calls Try.prog 76 #[.agg #[.int .i64 t.kind, .int .i64 t.num, .string t.name, .slice p1 t.args.length q1], v] W fun e w' => ∃ a c, e = .returned (tmV (numT t.vars t) (.slice a (numT t.vars t).args.length c)) ∧ TmAt (fun _ => True) w' (numT t.vars t) (.slice a (numT t.vars t).args.length c) ∧ Below V.heap.size V w') := fun W v h hv => (num_all t.vars (by omega) t _ v W (hta.later h) hv hoa (fun x hx => mem_addVs.2 (.inr hx)) hn).mono fun e w' ⟨a, c, h1, h2, h3⟩ => ⟨a, c, h1, h2.any, h.trans (h3.mono h.size)⟩
  have C3 : Hid (∀ W x xv, Below V.heap.size V W → TmAt (fun _ => True) W x xv → Calls Try.prog 21 #[.agg #[.int .i64 u.kind, .int .i64 u.num, .string u.name, .slice p2 u.args.length q2]] W fun e w' => ∃ a c, e = .returned (.slice a u.vars.length c) ∧ IsAt w' (.slice a u.vars.length c) u.vars ∧ TmAt (fun _ => True) w' x xv ∧ Below V.heap.size V w') := fun W x xv h hx => (rvars_all u _ W (htb.later h) hob hm).mono fun e w' ⟨a, c, h1, h2, h3⟩ => ⟨a, c, h1, IsAt.own h2, hx.later h3, h.trans (h3.mono h.size)⟩
  have C4 : Hid (∀ W v x xv, Below V.heap.size V W → IsAt W v u.vars → TmAt (fun _ => True) W x xv → Calls Try.prog 76 #[.agg #[.int .i64 u.kind, .int .i64 u.num, .string u.name, .slice p2 u.args.length q2], v] W fun e w' => ∃ a c, e = .returned (tmV (numT u.vars u) (.slice a (numT u.vars u).args.length c)) ∧ TmAt (fun _ => True) w' (numT u.vars u) (.slice a (numT u.vars u).args.length c) ∧ TmAt (fun _ => True) w' x xv ∧ Below V.heap.size V w') := fun W v x xv h hv hx => (num_all u.vars (by omega) u _ v W (htb.later h) hv hob (fun x hx => mem_addVs.2 (.inr hx)) hm).mono fun e w' ⟨a, c, h1, h2, h3⟩ => ⟨a, c, h1, h2.any, hx.later h3, h.trans (h3.mono h.size)⟩
  have C5 : Hid (∀ W x xv y yv, Below V.heap.size V W → TmAt (fun _ => True) W x xv → TmAt (fun _ => True) W y yv → Calls Try.prog 24 #[tmV x xv, tmV y yv] W fun e w' => e = .returned (.int .i64 (cmpT x y)) ∧ Below V.heap.size V w') := fun W x xv y yv h hx hy => (refCompareT_c x y _ _ W hx hy).mono fun e w' ⟨h1, h2⟩ => ⟨h1, h.trans (h2.mono h.size)⟩
  have HD : Hid (decide (cmpT (numT t.vars t) (numT u.vars u) = 0) = (cmpT (numT t.vars t) (numT u.vars u) == 0)) := by show _ = _; apply Bool.eq_iff_iff.2; simp
  rw [HD.out]
  have k0 := KS.out _ (Below.refl _ _)
  unfold tmV at C2 C4 C5 ⊢
  clear ha hb hoa hob hn hm hta htb X4 X5 al htl hul HD
  generalize numT t.vars t = x at *
  generalize numT u.vars u = y at *
  generalize t.vars = vt at *
  generalize u.vars = vu at *
  go_enter Try.func30, Try.ntmps30
  go_upto_region 1 with (fail)
  rw [← hV]
  clear hV
  go_region_held3 (fun W => W.cell? ⟨w.heap.size, 0, none⟩ = some (.int .i64 t.kind) ∧ W.cell? ⟨w.heap.size, 1, none⟩ = some (.int .i64 t.num) ∧ W.cell? ⟨w.heap.size, 2, none⟩ = some (.string t.name) ∧ W.cell? ⟨w.heap.size, 3, none⟩ = some (.slice p1 t.args.length q1) ∧ W.cell? ⟨w.heap.size + 1, 0, none⟩ = some (.int .i64 u.kind) ∧ W.cell? ⟨w.heap.size + 1, 1, none⟩ = some (.int .i64 u.num) ∧ W.cell? ⟨w.heap.size + 1, 2, none⟩ = some (.string u.name) ∧ W.cell? ⟨w.heap.size + 1, 3, none⟩ = some (.slice p2 u.args.length q2))
    ((first | exact KS.out _ P5.out | exact KS.out _ P4.out | exact KS.out _ P3.out | exact KS.out _ P2.out | exact KS.out _ P1.out | (refine KS.out _ ?_; go_grown)))
    (first
      | (go_at_call 76; ((with_reducible refine (C4.out _ _ _ _ P3.out I3.out T3.out).mono ?_); rintro e W4 ⟨a4, c4, rfl, t4, t2, bb⟩; have P4 := Lib.hid bb; have T4 := Lib.hid t4; have T2' := Lib.hid t2; clear bb t4 t2))
      | (go_at_call 21; ((with_reducible refine (C3.out _ _ _ P2.out T2.out).mono ?_); rintro e W3 ⟨a3, c3, rfl, i3, t3, bb⟩; have P3 := Lib.hid bb; have I3 := Lib.hid i3; have T3 := Lib.hid t3; clear bb i3 t3))
      | (go_at_call 76; ((with_reducible refine (C2.out _ _ P1.out I1.out).mono ?_); rintro e W2 ⟨a2, c2, rfl, t2, bb⟩; have P2 := Lib.hid bb; have T2 := Lib.hid t2; clear bb t2))
      | (go_at_call 21; ((with_reducible refine (C1.out _ ?_).mono ?_); (· go_grown); rintro e W1 ⟨a1, c1, rfl, i1, bb⟩; have P1 := Lib.hid bb; have I1 := Lib.hid i1; clear bb i1))
      | (go_at_call 24; ((with_reducible refine (C5.out _ _ _ _ _ P4.out T2'.out T4.out).mono ?_); rintro e W5 ⟨rfl, bb⟩; have P5 := Lib.hid bb; clear bb)))
  go_wp2
  go_ret
  exact ⟨rfl, BV.out.trans (P5.out.mono BV.out.size)⟩
end Go.Proofs.Ytmffobadnmkpbaa
namespace Go.Proofs.Ytmffobadnmkpbaa
open Go.RowKit

theorem wp_gen7 {P : Program} {c : Code} {Q : Exit → Act → World → Prop} {a : Act} {W' : World} (h : ∀ W9, W9 = W' → c.wp P Q a W9) : c.wp P Q a W' := h _ rfl
set_option maxRecDepth 1000000 in
set_option maxHeartbeats 6400000 in
theorem termOrders_any (s0 s1 : ByteArray) (w : World) : Calls Try.prog 6 #[.string s0, .string s1] w fun e w' => e = .returned (.bool true) ∧ Below w.heap.size w w' := by
  have CO : Hid (∀ s W, Calls Try.prog 14 #[.string s] W (RetOne7 W)) := fun s W => one7_c s W
  have al : ∀ (W : World) (o : Obj) (B : Nat), B ≤ W.heap.size → Below B W (W.alloc o) := fun W o B h => (Below.refl B W).alloc h o
  have AL := Lib.hid al
  clear al
  go_enter Try.func6, Try.ntmps6
  go_upto_region 2 with (first | (go_at_call 14; ((with_reducible refine (CO.out _ _).mono ?_); rintro e W1 ⟨a, p1, q1, b1, rfl, ta, hfa, bb⟩; have TA := Lib.hid ta; have HFA := Lib.hid hfa; have B1 := Lib.hid bb; clear bb ta hfa)))
  refine wp_gen7 fun V1 hV1 => ?_
  have PV1 : Hid (Below W1.heap.size W1 V1) := by rw [hV1]; exact AL.out _ _ _ (Nat.le_refl _)
  have X1 : Hid (BoxL V1 W1.heap.size [.int .i64 a.kind, .int .i64 a.num, .string a.name, .slice p1 a.args.length q1]) := by rw [hV1]; exact BoxL.mk' W1 #[.int .i64 a.kind, .int .i64 a.num, .string a.name, .slice p1 a.args.length q1] 24
  clear hV1
  go_upto_region 3 with (first | (go_at_call 14; ((with_reducible refine (CO.out _ _).mono ?_); rintro e W2 ⟨b, p2, q2, b2, rfl, tb, hfb, bb⟩; have TB := Lib.hid tb; have HFB := Lib.hid hfb; have B2 := Lib.hid bb; clear bb tb hfb)))
  refine wp_gen7 fun V hV => ?_
  have PV2 : Hid (Below W2.heap.size W2 V) := by rw [hV]; exact AL.out _ _ _ (Nat.le_refl _)
  have X2 : Hid (BoxL V W2.heap.size [.int .i64 b.kind, .int .i64 b.num, .string b.name, .slice p2 b.args.length q2]) := by rw [hV]; exact BoxL.mk' W2 #[.int .i64 b.kind, .int .i64 b.num, .string b.name, .slice p2 b.args.length q2] 24
  have Q2 := Lib.hid (B2.out.trans (PV2.out.mono B2.out.size))
  have PV := Lib.hid (B1.out.trans ((PV1.out.trans (Q2.out.mono PV1.out.size)).mono B1.out.size))
  clear hV CO
  have main : (b1 = true ∧ b2 = true) ∨ (b1 = false) ∨ (b1 = true ∧ b2 = false) := by cases b1 <;> cases b2 <;> simp
  rcases main with ⟨rfl, rfl⟩ | rfl | ⟨rfl, rfl⟩
  rotate_left
  all_goals try
    have CV : Hid (∀ W, Calls Try.prog 29 #[.agg #[.int .i64 2, .int .i64 0, .string ⟨#[]⟩, .slice none 0 0], .agg #[.int .i64 2, .int .i64 0, .string ⟨#[]⟩, .slice none 0 0]] W fun e w' => e = .returned (.bool true) ∧ Below W.heap.size W w') := fun W => by
      have h := variant_c (.int 0) (.int 0) (.slice none 0 0) (.slice none 0 0) W (.leaf rfl) (.leaf rfl) (.int (by omega) (by omega)) (.int (by omega) (by omega)) (by simp [Tm.size])
      rw [variant_self] at h; exact h
    go_wp2_with (first | (go_at_call 29; ((with_reducible refine (CV.out _).mono ?_); rintro e W3 ⟨rfl, bb⟩; have B3 := Lib.hid bb; clear bb)))
    go_ret
    exact ⟨rfl, PV.out.trans (B3.out.mono PV.out.size)⟩
  · obtain ⟨oka, sza⟩ := HFA.out rfl
    obtain ⟨okb, szb⟩ := HFB.out rfl
    have hta : TmAt (fun _ => True) V a (.slice p1 a.args.length q1) := (TA.out.any.later PV1.out).later Q2.out
    have htb : TmAt (fun _ => True) V b (.slice p2 b.args.length q2) := TB.out.any.later PV2.out
    have KS : Hid (∀ W, Below V.heap.size V W → W.cell? ⟨W1.heap.size, 0, none⟩ = some (.int .i64 a.kind) ∧ W.cell? ⟨W1.heap.size, 1, none⟩ = some (.int .i64 a.num) ∧ W.cell? ⟨W1.heap.size, 2, none⟩ = some (.string a.name) ∧ W.cell? ⟨W1.heap.size, 3, none⟩ = some (.slice p1 a.args.length q1) ∧ W.cell? ⟨W2.heap.size, 0, none⟩ = some (.int .i64 b.kind) ∧ W.cell? ⟨W2.heap.size, 1, none⟩ = some (.int .i64 b.num) ∧ W.cell? ⟨W2.heap.size, 2, none⟩ = some (.string b.name) ∧ W.cell? ⟨W2.heap.size, 3, none⟩ = some (.slice p2 b.args.length q2)) := fun W h => by
      have k4 := kk4w ((X1.out.block (Q2.out.block _ (X1.out.lt (by simp)))).below h (by have h1 := X1.out.lt (by simp); have h2 := Q2.out.size; omega))
      have k5 := kk4w (X2.out.below h (X2.out.lt (by simp)))
      exact ⟨k4.1, k4.2.1, k4.2.2.1, k4.2.2.2, k5.1, k5.2.1, k5.2.2.1, k5.2.2.2⟩
    have C1 : Hid (∀ W, Below V.heap.size V W → Calls Try.prog 23 #[.agg #[.int .i64 a.kind, .int .i64 a.num, .string a.name, .slice p1 a.args.length q1], .agg #[.int .i64 b.kind, .int .i64 b.num, .string b.name, .slice p2 b.args.length q2]] W fun e w' => e = .returned (.int .i64 (cmpT a b)) ∧ Below V.heap.size V w') := fun W h => (compareT_c a b _ _ W (hta.later h) (htb.later h)).mono fun e w' ⟨h1, h2⟩ => ⟨h1, h.trans (h2.mono h.size)⟩
    have C2 : Hid (∀ W, Below V.heap.size V W → Calls Try.prog 24 #[.agg #[.int .i64 a.kind, .int .i64 a.num, .string a.name, .slice p1 a.args.length q1], .agg #[.int .i64 b.kind, .int .i64 b.num, .string b.name, .slice p2 b.args.length q2]] W fun e w' => e = .returned (.int .i64 (cmpT a b)) ∧ Below V.heap.size V w') := fun W h => (refCompareT_c a b _ _ W (hta.later h) (htb.later h)).mono fun e w' ⟨h1, h2⟩ => ⟨h1, h.trans (h2.mono h.size)⟩
    have C3 : Hid (∀ W, Below V.heap.size V W → Calls Try.prog 23 #[.agg #[.int .i64 b.kind, .int .i64 b.num, .string b.name, .slice p2 b.args.length q2], .agg #[.int .i64 a.kind, .int .i64 a.num, .string a.name, .slice p1 a.args.length q1]] W fun e w' => e = .returned (.int .i64 (-cmpT a b)) ∧ Below V.heap.size V w') := fun W h => ((cmpT_neg a b) ▸ compareT_c b a _ _ W (htb.later h) (hta.later h)).mono fun e w' ⟨h1, h2⟩ => ⟨h1, h.trans (h2.mono h.size)⟩
    have C4 : Hid (∀ W, Below V.heap.size V W → Calls Try.prog 23 #[.agg #[.int .i64 a.kind, .int .i64 a.num, .string a.name, .slice p1 a.args.length q1], .agg #[.int .i64 a.kind, .int .i64 a.num, .string a.name, .slice p1 a.args.length q1]] W fun e w' => e = .returned (.int .i64 0) ∧ Below V.heap.size V w') := fun W h => ((cmpT_self a) ▸ compareT_c a a _ _ W (hta.later h) (hta.later h)).mono fun e w' ⟨h1, h2⟩ => ⟨h1, h.trans (h2.mono h.size)⟩
    have C5 : Hid (∀ W, Below V.heap.size V W → Calls Try.prog 29 #[.agg #[.int .i64 a.kind, .int .i64 a.num, .string a.name, .slice p1 a.args.length q1], .agg #[.int .i64 b.kind, .int .i64 b.num, .string b.name, .slice p2 b.args.length q2]] W fun e w' => e = .returned (.bool (variantB a b)) ∧ Below V.heap.size V w') := fun W h => (variant_c a b _ _ W (hta.later h) (htb.later h) oka okb (by omega)).mono fun e w' ⟨h1, h2⟩ => ⟨h1, h.trans (h2.mono h.size)⟩
    have C6 : Hid (∀ W, Below V.heap.size V W → Calls Try.prog 30 #[.agg #[.int .i64 a.kind, .int .i64 a.num, .string a.name, .slice p1 a.args.length q1], .agg #[.int .i64 b.kind, .int .i64 b.num, .string b.name, .slice p2 b.args.length q2]] W fun e w' => e = .returned (.bool (variantB a b)) ∧ Below V.heap.size V w') := fun W h => ((variant_num a b) ▸ rvariant_c a b _ _ W (hta.later h) (htb.later h) oka okb (by omega) (by omega)).mono fun e w' ⟨h1, h2⟩ => ⟨h1, h.trans (h2.mono h.size)⟩
    have C7 : Hid (∀ W, Below V.heap.size V W → Calls Try.prog 29 #[.agg #[.int .i64 b.kind, .int .i64 b.num, .string b.name, .slice p2 b.args.length q2], .agg #[.int .i64 a.kind, .int .i64 a.num, .string a.name, .slice p1 a.args.length q1]] W fun e w' => e = .returned (.bool (variantB a b)) ∧ Below V.heap.size V w') := fun W h => ((variant_sym a b) ▸ variant_c b a _ _ W (htb.later h) (hta.later h) okb oka (by omega)).mono fun e w' ⟨h1, h2⟩ => ⟨h1, h.trans (h2.mono h.size)⟩
    have C8 : Hid (∀ W, Below V.heap.size V W → Calls Try.prog 29 #[.agg #[.int .i64 a.kind, .int .i64 a.num, .string a.name, .slice p1 a.args.length q1], .agg #[.int .i64 a.kind, .int .i64 a.num, .string a.name, .slice p1 a.args.length q1]] W fun e w' => e = .returned (.bool true) ∧ Below V.heap.size V w') := fun W h => ((variant_self a) ▸ variant_c a a _ _ W (hta.later h) (hta.later h) oka oka (by omega)).mono fun e w' ⟨h1, h2⟩ => ⟨h1, h.trans (h2.mono h.size)⟩
    have HC := Lib.hid (sg_cmpT a b)
    clear hta htb X1 X2 oka okb sza szb
    generalize cmpT a b = z at *
    generalize variantB a b = v at *
    obtain ⟨x0, x1, x2, x3, y0, y1, y2, y3⟩ := KS.out _ (Below.refl _ _)
    go_upto_region 6 with (first | (go_at_call 23; ((with_reducible refine (C1.out _ (Below.refl _ _)).mono ?_); rintro e W3 ⟨rfl, bb⟩; have P1 := Lib.hid bb; clear bb)))
    clear x0 x1 x2 x3 y0 y1 y2 y3
    have KS3 : Hid (∀ W, Below W3.heap.size W3 W → W.cell? ⟨W1.heap.size, 0, none⟩ = some (.int .i64 a.kind) ∧ W.cell? ⟨W1.heap.size, 1, none⟩ = some (.int .i64 a.num) ∧ W.cell? ⟨W1.heap.size, 2, none⟩ = some (.string a.name) ∧ W.cell? ⟨W1.heap.size, 3, none⟩ = some (.slice p1 a.args.length q1) ∧ W.cell? ⟨W2.heap.size, 0, none⟩ = some (.int .i64 b.kind) ∧ W.cell? ⟨W2.heap.size, 1, none⟩ = some (.int .i64 b.num) ∧ W.cell? ⟨W2.heap.size, 2, none⟩ = some (.string b.name) ∧ W.cell? ⟨W2.heap.size, 3, none⟩ = some (.slice p2 b.args.length q2)) := fun W h => KS.out W (P1.out.trans (h.mono P1.out.size))
    have k0 := KS3.out _ (Below.refl _ _)
    have D2 : Hid (∀ W, Below W3.heap.size W3 W → Calls Try.prog 24 #[.agg #[.int .i64 a.kind, .int .i64 a.num, .string a.name, .slice p1 a.args.length q1], .agg #[.int .i64 b.kind, .int .i64 b.num, .string b.name, .slice p2 b.args.length q2]] W fun e w' => e = .returned (.int .i64 z) ∧ Below V.heap.size V w') := fun W h => C2.out W (P1.out.trans (h.mono P1.out.size))
    obtain ⟨z', hz'⟩ : ∃ z', z' = -z := ⟨_, rfl⟩
    rw [← hz'] at C3
    have hz : (z = -1 ∧ z' = 1) ∨ (z = 0 ∧ z' = 0) ∨ (z = 1 ∧ z' = -1) := by have h : z = -1 ∨ z = 0 ∨ z = 1 := HC.out; omega
    clear C1 C2 hz' HC
    have hw1 : IntKind.i64.wrap 1 = 1 := by decide
    have hw2 : IntKind.i64.wrap (-1) = -1 := by decide
    have hw3 : IntKind.i64.wrap 0 = 0 := by decide
    rcases hz with ⟨rfl, rfl⟩ | ⟨rfl, rfl⟩ | ⟨rfl, rfl⟩ <;> cases v
    all_goals
      go_region_held3 (fun W => W.cell? ⟨W1.heap.size, 0, none⟩ = some (.int .i64 a.kind) ∧ W.cell? ⟨W1.heap.size, 1, none⟩ = some (.int .i64 a.num) ∧ W.cell? ⟨W1.heap.size, 2, none⟩ = some (.string a.name) ∧ W.cell? ⟨W1.heap.size, 3, none⟩ = some (.slice p1 a.args.length q1) ∧ W.cell? ⟨W2.heap.size, 0, none⟩ = some (.int .i64 b.kind) ∧ W.cell? ⟨W2.heap.size, 1, none⟩ = some (.int .i64 b.num) ∧ W.cell? ⟨W2.heap.size, 2, none⟩ = some (.string b.name) ∧ W.cell? ⟨W2.heap.size, 3, none⟩ = some (.slice p2 b.args.length q2))
        ((first | exact KS.out _ R8.out | exact KS.out _ R7.out | exact KS.out _ R5b.out | exact KS.out _ R5a.out | exact KS.out _ R5.out | exact KS.out _ R4.out | exact KS.out _ R3.out | exact KS.out _ R2.out | (refine KS3.out _ ?_; go_grown)))
        (first
          | (go_at_call 24; ((with_reducible refine (D2.out _ ?_).mono ?_); (· go_grown); rintro e Y1 ⟨rfl, bb⟩; have R2 := Lib.hid bb; clear bb))
          | (go_at_call 29; ((with_reducible refine (C8.out _ R7.out).mono ?_); rintro e Y7 ⟨rfl, bb⟩; have R8 := Lib.hid bb; clear bb))
          | (go_at_call 29; ((with_reducible refine (C5.out _ R5b.out).mono ?_); rintro e Y6b ⟨rfl, bb⟩; have R7 := Lib.hid bb; clear bb))
          | (go_at_call 29; ((with_reducible refine (C7.out _ R5a.out).mono ?_); rintro e Y5b ⟨rfl, bb⟩; have R5b := Lib.hid bb; clear bb))
          | (go_at_call 30; ((with_reducible refine (C6.out _ R5.out).mono ?_); rintro e Y5a ⟨rfl, bb⟩; have R5a := Lib.hid bb; clear bb))
          | (go_at_call 29; ((with_reducible refine (C5.out _ R4.out).mono ?_); rintro e Y5 ⟨rfl, bb⟩; have R5 := Lib.hid bb; clear bb))
          | (go_at_call 23; ((with_reducible refine (C4.out _ R3.out).mono ?_); rintro e Y4 ⟨rfl, bb⟩; have R4 := Lib.hid bb; clear bb))
          | (go_at_call 23; ((with_reducible refine (C3.out _ R2.out).mono ?_); rintro e Y3 ⟨rfl, bb⟩; have R3 := Lib.hid bb; clear bb)))
      go_wp2
      go_ret
      exact ⟨rfl, PV.out.trans (R8.out.mono PV.out.size)⟩
end Go.Proofs.Ytmffobadnmkpbaa
