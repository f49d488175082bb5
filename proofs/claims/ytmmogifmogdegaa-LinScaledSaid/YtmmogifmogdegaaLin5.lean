/-
  lin.atMost, walked.
-/
import Derived.Test.YtmmogifmogdegaaLin4
import Derived.Laws.EntriesVeiled
namespace Go.Proofs.Ytmmogifmogdegaa
open Go.RowKit

set_option maxRecDepth 100000 in
set_option maxHeartbeats 800000 in
theorem gtFn_c (vd : Value) (d : List Rg) (c lim : Int) (B1 B2 B3 B4 : Nat) (i : Nat) (W : World) (hd : RgAt W vd d) (hl : d.length ≤ 4096) (hc : -100000 ≤ c ∧ c ≤ 100000) (hi : (i : Int) < sizeL (norm d)) (x1 : Box1 W B1 vd) (x2 : Box1 W B2 (.int .i64 c))
    (x3 : Box1 W B3 (.func (.func 53) #[] #[.pointer (some ⟨B1, 0, none⟩), .pointer (some ⟨B2, 0, none⟩)])) (x4 : Box1 W B4 (.int .i64 lim)) :
    Calls Try.prog 56 #[.int .i64 i, .pointer (some ⟨B3, 0, none⟩), .pointer (some ⟨B4, 0, none⟩)] W fun e w' => e = .returned (.bool (decide (lim < c * vAt d i))) ∧ Below W.heap.size W w' := by
  have eg : ∀ args w, (callFunc 53 args).run Try.prog w = .ok (.enter 53 args) w := enters_of Try.func53 (by kernel_rfl) rfl
  have T : Hid (∀ g : QG W, Calls Try.prog 53 #[.int .i64 i, .pointer (some ⟨B1, 0, none⟩), .pointer (some ⟨B2, 0, none⟩)] g.1 fun e w' => e = .returned (.int .i64 (c * vAt d i)) ∧ Below g.1.heap.size g.1 w') :=
    fun g => timesFn_c vd d c B1 B2 i g.1 (hd.below g.2) hl hc hi (x1.past g.2) (x2.past g.2)
  have k3 := qb_cell x3.c0
  have k4 := qb_cell x4.c0
  clear hd x1 x2 x3 x4
  generalize c * vAt d i = y at *
  go_enter Try.func56, Try.ntmps56
  go_wp2
  refine wp_region_below (by kernel_rfl) (by kernel_rfl) ?_
  repeat (go_big_quiet_step ((go_at_call 53; exact qb_call _ (T.out _))))
  refine wpQuiet_nil ?_
  intro w1 hw1
  go_wp2
  go_ret
  exact ⟨ret_bool (by simp), hw1.below⟩

set_option maxRecDepth 100000 in
set_option maxHeartbeats 800000 in
theorem leFn_c (vd : Value) (d : List Rg) (c lim : Int) (B1 B2 B3 B4 : Nat) (i : Nat) (W : World) (hd : RgAt W vd d) (hl : d.length ≤ 4096) (hc : -100000 ≤ c ∧ c ≤ 100000) (hi : (i : Int) < sizeL (norm d)) (x1 : Box1 W B1 vd) (x2 : Box1 W B2 (.int .i64 c))
    (x3 : Box1 W B3 (.func (.func 53) #[] #[.pointer (some ⟨B1, 0, none⟩), .pointer (some ⟨B2, 0, none⟩)])) (x4 : Box1 W B4 (.int .i64 lim)) :
    Calls Try.prog 57 #[.int .i64 i, .pointer (some ⟨B3, 0, none⟩), .pointer (some ⟨B4, 0, none⟩)] W fun e w' => e = .returned (.bool (decide (c * vAt d i ≤ lim))) ∧ Below W.heap.size W w' := by
  have eg : ∀ args w, (callFunc 53 args).run Try.prog w = .ok (.enter 53 args) w := enters_of Try.func53 (by kernel_rfl) rfl
  have T : Hid (∀ g : QG W, Calls Try.prog 53 #[.int .i64 i, .pointer (some ⟨B1, 0, none⟩), .pointer (some ⟨B2, 0, none⟩)] g.1 fun e w' => e = .returned (.int .i64 (c * vAt d i)) ∧ Below g.1.heap.size g.1 w') :=
    fun g => timesFn_c vd d c B1 B2 i g.1 (hd.below g.2) hl hc hi (x1.past g.2) (x2.past g.2)
  have k3 := qb_cell x3.c0
  have k4 := qb_cell x4.c0
  clear hd x1 x2 x3 x4
  generalize c * vAt d i = y at *
  go_enter Try.func57, Try.ntmps57
  go_wp2
  refine wp_region_below (by kernel_rfl) (by kernel_rfl) ?_
  repeat (go_big_quiet_step ((go_at_call 53; exact qb_call _ (T.out _))))
  refine wpQuiet_nil ?_
  intro w1 hw1
  go_wp2
  go_ret
  exact ⟨ret_bool (by simp), hw1.below⟩

set_option maxRecDepth 100000 in
set_option maxHeartbeats 1600000 in
theorem atMost_c (vd : Value) (d : List Rg) (c lim : Int) (w : World) (hd : RgAt w vd d) (hl : d.length ≤ 4096) (hc : -100000 ≤ c ∧ c ≤ 100000) (hc0 : c ≠ 0) :
    Calls Try.prog 43 #[vd, .int .i64 c, .int .i64 lim] w (RetR (atMostL d c lim) w) := by
  obtain ⟨ao, cap, rfl, _⟩ := hd.shape
  obtain ⟨N, hN⟩ : ∃ N : Nat, sizeL (norm d) = N := ⟨(sizeL (norm d)).toNat, by have := size_bnd d; omega⟩
  have hNb : N ≤ 401 := by have := size_bnd d; omega
  have eg2 : ∀ args w, (callFunc 56 args).run Try.prog w = .ok (.enter 56 args) w := enters_of Try.func56 (by kernel_rfl) rfl
  have eg3 : ∀ args w, (callFunc 57 args).run Try.prog w = .ok (.enter 57 args) w := enters_of Try.func57 (by kernel_rfl) rfl
  have CS : Hid (∀ W, Below w.heap.size w W → Calls Try.prog 52 #[.slice ao d.length cap] W fun e w' => e = .returned (.int .i64 N) ∧ Below W.heap.size W w') := fun W h => by
    have := size_c _ d W (hd.below h) hl; rwa [hN] at this
  have CA : Hid (∀ (k : Nat) W, k < N → Below w.heap.size w W → Calls Try.prog 54 #[.slice ao d.length cap, .int .i64 k] W fun e w' => e = .returned (.tuple #[.int .i64 (vAt d k), .bool true]) ∧ Below W.heap.size W w') := fun k W hk h => by
    have h1 := at_c _ d k W (hd.below h) hl (by omega)
    have e : (if (k : Int) < 0 then none else atL (norm d) k) = some (vAt d k) := (vAt_in d k (by omega)).1
    rw [e] at h1; exact h1
  have CM : Hid (∀ (r : Rg) W v2, Below w.heap.size w W → RgAt W v2 [r] → Calls Try.prog 50 #[.slice ao d.length cap, v2] W (RetR (meetL d [r]) W)) := fun r W v2 h hr => meet_c _ _ d [r] W (hd.below h) hr hl (by simp)
  have CF2 : Hid (∀ (B1 B2 B3 B4 : Nat) W, 0 < c → Below w.heap.size w W → Box1 W B1 (.slice ao d.length cap) → Box1 W B2 (.int .i64 c) → Box1 W B3 (.func (.func 53) #[] #[.pointer (some ⟨B1, 0, none⟩), .pointer (some ⟨B2, 0, none⟩)]) → Box1 W B4 (.int .i64 lim) →
      Calls Try.prog 55 #[.int .i64 N, .func (.func 56) #[] #[.pointer (some ⟨B3, 0, none⟩), .pointer (some ⟨B4, 0, none⟩)]] W (FirstIs N (fun i => decide (lim < c * vAt d i)) W)) := fun B1 B2 B3 B4 W h0 hb x1 x2 x3 x4 =>
    first_c N (by omega) 56 _ _ (fun i j h1 h2 h3 => by
      have a := (vAt_le_iff d i j (by omega) (by omega)).2 h1
      have b := Int.mul_le_mul_of_nonneg_left a (by omega : 0 ≤ c)
      simp at h3 ⊢; omega) W eg2 (fun W' i hb' hi => gtFn_c _ d c lim B1 B2 B3 B4 i W' (hd.below (hb.trans (hb'.mono hb.size))) hl hc (by omega) (x1.past hb') (x2.past hb') (x3.past hb') (x4.past hb'))
  have CF3 : Hid (∀ (B1 B2 B3 B4 : Nat) W, c < 0 → Below w.heap.size w W → Box1 W B1 (.slice ao d.length cap) → Box1 W B2 (.int .i64 c) → Box1 W B3 (.func (.func 53) #[] #[.pointer (some ⟨B1, 0, none⟩), .pointer (some ⟨B2, 0, none⟩)]) → Box1 W B4 (.int .i64 lim) →
      Calls Try.prog 55 #[.int .i64 N, .func (.func 57) #[] #[.pointer (some ⟨B3, 0, none⟩), .pointer (some ⟨B4, 0, none⟩)]] W (FirstIs N (fun i => decide (c * vAt d i ≤ lim)) W)) := fun B1 B2 B3 B4 W h0 hb x1 x2 x3 x4 =>
    first_c N (by omega) 57 _ _ (fun i j h1 h2 h3 => by
      have a := (vAt_le_iff d i j (by omega) (by omega)).2 h1
      have b := Int.mul_le_mul_of_nonpos_left (show c ≤ 0 by omega) a
      simp at h3 ⊢; omega) W eg3 (fun W' i hb' hi => leFn_c _ d c lim B1 B2 B3 B4 i W' (hd.below (hb.trans (hb'.mono hb.size))) hl hc (by omega) (x1.past hb') (x2.past hb') (x3.past hb') (x4.past hb'))
  have N0 : Hid (∀ k : Nat, k = 0 → (∀ i, k ≤ i → i < N → decide (lim < c * vAt d i) = true) → atMostL d c lim = []) := fun k hk h => atMost_none d c lim (fun i hi => by have := h i (by omega) (by omega); simpa using this)
  have N1 : Hid (∀ k : Nat, k + 1 ≤ N → (∀ i, i < k + 1 → decide (lim < c * vAt d i) = false) → (∀ i, k + 1 ≤ i → i < N → decide (lim < c * vAt d i) = true) → meetL d [(-200, vAt d k)] = atMostL d c lim) := fun k hk h1 h2 =>
    atMost_low d c lim k (by omega) (fun i hi => by have := h1 i (by omega); simp at this; omega) (fun i hi hi2 => by have := h2 i (by omega) (by omega); simpa using this)
  have N2 : Hid ((∀ i, i < N → decide (c * vAt d i ≤ lim) = false) → atMostL d c lim = []) := fun h => atMost_none d c lim (fun i hi => by have := h i (by omega); simp at this; omega)
  have N3 : Hid (∀ k : Nat, k < N → (∀ i, i < k → decide (c * vAt d i ≤ lim) = false) → (∀ i, k ≤ i → i < N → decide (c * vAt d i ≤ lim) = true) → meetL d [(vAt d k, 200)] = atMostL d c lim) := fun k hk h1 h2 =>
    atMost_high d c lim k (by omega) (fun i hi hi2 => by have := h2 i hi (by omega); simpa using this) (fun i hi => by have := h1 i hi; simp at this; omega)
  clear hd eg2 eg3 hN
  generalize atMostL d c lim = res at *
  have Z0 : Hid (∀ T1 T2 T3, Below w.heap.size w (((w.alloc (.cells #[.slice ao d.length cap] T1)).alloc (.cells #[.int .i64 c] T2)).alloc (.cells #[.int .i64 lim] T3)) ∧ Box1 (((w.alloc (.cells #[.slice ao d.length cap] T1)).alloc (.cells #[.int .i64 c] T2)).alloc (.cells #[.int .i64 lim] T3)) w.heap.size (.slice ao d.length cap) ∧
      Box1 (((w.alloc (.cells #[.slice ao d.length cap] T1)).alloc (.cells #[.int .i64 c] T2)).alloc (.cells #[.int .i64 lim] T3)) (w.heap.size + 1) (.int .i64 c) ∧ Box1 (((w.alloc (.cells #[.slice ao d.length cap] T1)).alloc (.cells #[.int .i64 c] T2)).alloc (.cells #[.int .i64 lim] T3)) (w.heap.size + 1 + 1) (.int .i64 lim)) := fun T1 T2 T3 =>
    ⟨by go_grown, ⟨by go_simp, by go_simp⟩, ⟨by go_simp, by go_simp⟩, ⟨by go_simp, by go_simp⟩⟩
  rcases (show 0 < c ∨ c < 0 by omega) with hpos | hneg
  · go_enter Try.func43, Try.ntmps43
    go_wp2_with (first
      | (go_at_call 52; (with_reducible refine (CS.out _ (Z0.out 29 3 3).1).mono ?_); rintro e W1 ⟨rfl, bb⟩; have B1 := Lib.hid ((Z0.out 29 3 3).1.trans (bb.mono (Z0.out 29 3 3).1.size)); have X1 := Lib.hid ((Z0.out 29 3 3).2.1.past bb); have X2 := Lib.hid ((Z0.out 29 3 3).2.2.1.past bb); have X3 := Lib.hid ((Z0.out 29 3 3).2.2.2.past bb); obtain ⟨y1, _⟩ := X1.out; obtain ⟨y2, _⟩ := X2.out; obtain ⟨y3, _⟩ := X3.out; have l1 := X1.out.lt; have l2 := X2.out.lt; have l3 := X3.out.lt; clear bb)
      | (go_at_call 55; refine (CF2.out w.heap.size (w.heap.size + 1) W1.heap.size (w.heap.size + 1 + 1) _ hpos (B1.out.alloc B1.out.size _) (X1.out.past ((Below.refl _ _).alloc (Nat.le_refl _) _)) (X2.out.past ((Below.refl _ _).alloc (Nat.le_refl _) _)) (Box1.mk' _ _ _) (X3.out.past ((Below.refl _ _).alloc (Nat.le_refl _) _))).mono ?_; rintro e W2 ⟨k, hk, rfl, q1, q2, b2⟩; have B2 := Lib.hid ((B1.out.alloc B1.out.size _).trans (b2.mono (Nat.le_trans B1.out.size (Nat.le_of_lt (Nat.lt_of_lt_of_le (Nat.lt_succ_self _) (Nat.le_of_eq (World.size_alloc _ _).symm)))))); have y4 := ((X1.out.past ((Below.refl _ _).alloc (Nat.le_refl _) _)).past b2).c0; have y4f := ((X1.out.past ((Below.refl _ _).alloc (Nat.le_refl _) _)).past b2).f0; have Q1 := Lib.hid q1; have Q2 := Lib.hid q2; clear q1 q2 b2; rcases k with _ | j)
      | (go_at_call 54; (with_reducible refine (CA.out j _ (Nat.lt_of_succ_le hk) B2.out).mono ?_); rintro e W3 ⟨rfl, b3⟩; have B3 := Lib.hid (B2.out.trans (b3.mono B2.out.size)); have y5 := (Box1.past ⟨y4, y4f⟩ b3).c0; clear b3)
      | (go_at_call 50; refine (CM.out (-200, vAt d j) _ _ (B3.out.alloc B3.out.size _) (rgAt_lit2 _ (-200, vAt d j) _)).mono ?_; rintro e W4 ⟨a4, c4, rfl, r4, b4⟩; have B4 := Lib.hid ((B3.out.alloc B3.out.size _).trans (b4.mono (B3.out.alloc B3.out.size _).size))))
    · rw [N0.out 0 rfl Q2.out]
      go_ret
      exact ⟨_, _, rfl, RgAt.nil, B2.out⟩
    · have NM := N1.out j hk Q1.out Q2.out
      go_ret
      rw [NM] at r4
      rw [NM]
      exact ⟨_, _, rfl, r4, B4.out⟩
  · have hnc : ¬ 0 < c := by omega
    go_enter Try.func43, Try.ntmps43
    go_wp2_with (first
      | (go_at_call 52; (with_reducible refine (CS.out _ (Z0.out 29 3 3).1).mono ?_); rintro e W1 ⟨rfl, bb⟩; have B1 := Lib.hid ((Z0.out 29 3 3).1.trans (bb.mono (Z0.out 29 3 3).1.size)); have X1 := Lib.hid ((Z0.out 29 3 3).2.1.past bb); have X2 := Lib.hid ((Z0.out 29 3 3).2.2.1.past bb); have X3 := Lib.hid ((Z0.out 29 3 3).2.2.2.past bb); obtain ⟨y1, _⟩ := X1.out; obtain ⟨y2, _⟩ := X2.out; obtain ⟨y3, _⟩ := X3.out; have l1 := X1.out.lt; have l2 := X2.out.lt; have l3 := X3.out.lt; clear bb)
      | (go_at_call 55; refine (CF3.out w.heap.size (w.heap.size + 1) W1.heap.size (w.heap.size + 1 + 1) _ hneg (B1.out.alloc B1.out.size _) (X1.out.past ((Below.refl _ _).alloc (Nat.le_refl _) _)) (X2.out.past ((Below.refl _ _).alloc (Nat.le_refl _) _)) (Box1.mk' _ _ _) (X3.out.past ((Below.refl _ _).alloc (Nat.le_refl _) _))).mono ?_; rintro e W2 ⟨k, hk, rfl, q1, q2, b2⟩; have B2 := Lib.hid ((B1.out.alloc B1.out.size _).trans (b2.mono (Nat.le_trans B1.out.size (Nat.le_of_lt (Nat.lt_of_lt_of_le (Nat.lt_succ_self _) (Nat.le_of_eq (World.size_alloc _ _).symm)))))); have y4 := ((X1.out.past ((Below.refl _ _).alloc (Nat.le_refl _) _)).past b2).c0; have y4f := ((X1.out.past ((Below.refl _ _).alloc (Nat.le_refl _) _)).past b2).f0; have Q1 := Lib.hid q1; have Q2 := Lib.hid q2; clear q1 q2 b2; by_cases hkN : k = N)
      | (go_at_call 54; (with_reducible refine (CA.out k _ (Nat.lt_of_le_of_ne hk hkN) B2.out).mono ?_); rintro e W3 ⟨rfl, b3⟩; have B3 := Lib.hid (B2.out.trans (b3.mono B2.out.size)); have y5 := (Box1.past ⟨y4, y4f⟩ b3).c0; clear b3)
      | (go_at_call 50; refine (CM.out (vAt d k, 200) _ _ (B3.out.alloc B3.out.size _) (rgAt_lit2 _ (vAt d k, 200) _)).mono ?_; rintro e W4 ⟨a4, c4, rfl, r4, b4⟩; have B4 := Lib.hid ((B3.out.alloc B3.out.size _).trans (b4.mono (B3.out.alloc B3.out.size _).size))))
    · subst hkN
      rw [N2.out Q1.out]
      go_ret
      exact ⟨_, _, rfl, RgAt.nil, B2.out⟩
    · have NM := N3.out k (Nat.lt_of_le_of_ne hk hkN) Q1.out Q2.out
      go_ret
      rw [NM] at r4
      rw [NM]
      exact ⟨_, _, rfl, r4, B4.out⟩
end Go.Proofs.Ytmmogifmogdegaa
