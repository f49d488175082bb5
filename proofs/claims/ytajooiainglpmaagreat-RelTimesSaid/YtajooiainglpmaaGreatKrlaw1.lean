/-
  What the laws of layer 16 begin with: the bound, the check.
  The values that the laws of layer 16 pick; Check of constant constraints.
-/
import Derived.Test.YtajooiainglpmaaGreatKrel3
import Derived.Test.YtajooiainglpmaaGreatKlin8
import Derived.Test.YtajooiainglpmaaGreatKonce8
import Derived.Test.YtajooiainglpmaaGreatKonce2
namespace Go.Proofs.YtajooiainglpmaaGreat
open Go.RowKit

def many16 (coef vars vs : List Int) (ds : Ds) : Bool := decide (6 < ds.length) || decide (6 < vars.length) || decide (6 < coef.length) || decide (8 < vs.length) || ds.any fun d => decide (8 < d.length)
theorem many16_ok {coef vars vs : List Int} {ds : Ds} (h : many16 coef vars vs ds = false) : ds.length ≤ 6 ∧ vars.length ≤ 6 ∧ coef.length ≤ 6 ∧ vs.length ≤ 8 ∧ ∀ d ∈ ds, d.length ≤ 8 := by
  simp only [many16, Bool.or_eq_false_iff, decide_eq_false_iff_not, List.any_eq_false, decide_eq_true_eq] at h
  obtain ⟨⟨⟨⟨h1, h2⟩, h3⟩, h5⟩, h4⟩ := h
  exact ⟨by omega, by omega, by omega, by omega, fun d hd => by have := h4 d hd; omega⟩

set_option maxRecDepth 100000 in
set_option maxHeartbeats 800000 in
theorem many16_c (va vb vv vds : Value) (kind rel C x y z : Int) (coef vars vs : List Int) (ds : Ds) (w : World) (h0 : IsAt w va coef) (h1 : IsAt w vb vars) (h2 : IsAt w vv vs) (hd : DsAt w vds ds) :
    Calls Tryz.prog 17 #[propV kind va vb rel C x y z vv, vds] w fun e w' => e = .returned (.bool (many16 coef vars vs ds)) ∧ Below w.heap.size w w' := by
  obtain ⟨a0, c0, rfl, _⟩ := IsAt.shape h0
  obtain ⟨a1, c1, rfl, _⟩ := IsAt.shape h1
  obtain ⟨a2, c2, rfl, _⟩ := IsAt.shape h2
  obtain ⟨a3, c3, rfl, _⟩ := hd.shape
  have HD := Lib.hid hd
  have HZ : Hid (∀ T, Below w.heap.size w (w.alloc (.cells #[.int .i64 kind, .slice a0 coef.length c0, .slice a1 vars.length c1, .int .i64 rel, .int .i64 C, .int .i64 x, .int .i64 y, .int .i64 z, .slice a2 vs.length c2] T))) := fun T => (Below.refl _ _).alloc (Nat.le_refl _) _
  clear h0 h1 h2 hd
  unfold many16 propV
  by_cases g1 : 6 < ds.length
  · go_enter Tryz.func17, Tryz.ntmps17
    go_wp2
    go_ret
    exact ⟨ret_bool (by simp), HZ.out _⟩
  by_cases g2 : 6 < vars.length
  · go_enter Tryz.func17, Tryz.ntmps17
    go_wp2
    go_ret
    exact ⟨ret_bool (by simp), HZ.out _⟩
  by_cases g3 : 6 < coef.length
  · go_enter Tryz.func17, Tryz.ntmps17
    go_wp2
    go_ret
    exact ⟨ret_bool (by simp), HZ.out _⟩
  by_cases g4 : 8 < vs.length
  · go_enter Tryz.func17, Tryz.ntmps17
    go_wp2
    go_ret
    exact ⟨ret_bool (by simp [g4]), HZ.out _⟩
  rw [show (decide (6 < ds.length) || decide (6 < vars.length) || decide (6 < coef.length) || decide (8 < vs.length) || ds.any fun d => decide (8 < d.length)) = ds.any fun d => decide (8 < d.length) by simp [g1, g2, g3, g4]]
  go_enter Tryz.func17, Tryz.ntmps17
  go_wp2
  have HZ1 := Lib.hid (HZ.out 30)
  generalize (w.alloc (.cells #[.int .i64 kind, .slice a0 coef.length c0, .slice a1 vars.length c1, .int .i64 rel, .int .i64 C, .int .i64 x, .int .i64 y, .int .i64 z, .slice a2 vs.length c2] 30)) = W at HZ1 ⊢
  go_loop [5] (fun s => ∃ k : Nat, k ≤ ds.length ∧ s = .int .i64 k ∧ Hid (((ds.take k).any fun d => decide (8 < d.length)) = false)) (fun s => ds.length - (intOf s).toNat)
  case atStart => exact ⟨0, by omega, rfl, rfl⟩
  case round =>
    obtain ⟨k, hk, rfl, HE⟩ := hrel
    by_cases hlt : k < ds.length
    · obtain ⟨b, off, ao, cap, rfl, q1, q2, _, hc, _⟩ := HD.out.get k hlt
      have j1 : (k : Int) < ds.length := by omega
      rw [← HZ1.out.cell (p := ⟨b, off + k, none⟩) q2] at hc
      have HS : Hid (((ds.take (k + 1)).any fun d => decide (8 < d.length)) = (((ds.take k).any fun d => decide (8 < d.length)) || decide (8 < ds[k].length))) := by
        show _ = _
        rw [List.take_succ_eq_append_getElem hlt, List.any_append, List.any_cons, List.any_nil, Bool.or_false]
      have HT : Hid (8 < ds[k].length → (ds.any fun d => decide (8 < d.length)) = true) := fun h => by
        rw [List.any_eq_true]; exact ⟨ds[k], List.getElem_mem _, by simpa using h⟩
      generalize ds[k] = d at *
      by_cases hx : 8 < d.length
      · have HT2 := Lib.hid (HT.out hx)
        go_wp2
        go_ret
        exact ⟨ret_bool (by rw [HT2.out]), HZ1.out⟩
      · go_wp2
        exact ⟨⟨k + 1, by omega, by go_num, by show _ = _; rw [HS.out, HE.out]; simp [hx]⟩, by simp [intOf]; omega⟩
    · obtain rfl : k = ds.length := by omega
      rw [List.take_length] at HE
      go_wp2
      go_ret
      exact ⟨ret_bool (by rw [HE.out]), HZ1.out⟩

def right16 (kind rel C x y z : Int) (coef vars vs : List Int) (ds : Ds) : Bool := !many16 coef vars vs ds && decide (relChk kind rel C x y z coef vars vs ds.length = 0)

set_option maxRecDepth 100000 in
set_option maxHeartbeats 800000 in
theorem right16_c (va vb vv vds : Value) (kind rel C x y z : Int) (coef vars vs : List Int) (ds : Ds) (w : World) (h0 : IsAt w va coef) (h1 : IsAt w vb vars) (h2 : IsAt w vv vs) (hd : DsAt w vds ds) :
    Calls Tryz.prog 18 #[propV kind va vb rel C x y z vv, vds] w fun e w' => e = .returned (.bool (right16 kind rel C x y z coef vars vs ds)) ∧ Below w.heap.size w w' := by
  have CM := Lib.hid (fun W (h : Below w.heap.size w W) => many16_c va vb vv vds kind rel C x y z coef vars vs ds W (h0.below h) (h1.below h) (h2.below h) (hd.below h))
  have CC : Hid (∀ W, Below w.heap.size w W → many16 coef vars vs ds = false → Calls Tryz.prog 42 #[propV kind va vb rel C x y z vv, .int .i64 ds.length] W fun e w' => e = .returned (.int .i64 (relChk kind rel C x y z coef vars vs ds.length)) ∧ Below W.heap.size W w') := fun W h hm => by
    obtain ⟨m1, m2, m3, m4, _⟩ := many16_ok hm
    exact refRelCheck_c kind va vb vv rel C x y z ds.length coef vars vs W (h0.below h) (h1.below h) (h2.below h) (by omega) (by omega) (by omega)
  obtain ⟨a0, c0, rfl, _⟩ := IsAt.shape h0
  obtain ⟨a1, c1, rfl, _⟩ := IsAt.shape h1
  obtain ⟨a2, c2, rfl, _⟩ := IsAt.shape h2
  obtain ⟨a3, c3, rfl, _⟩ := hd.shape
  have HZ0 : Hid (Below w.heap.size w (w.alloc (.cells #[.int .i64 kind, .slice a0 coef.length c0, .slice a1 vars.length c1, .int .i64 rel, .int .i64 C, .int .i64 x, .int .i64 y, .int .i64 z, .slice a2 vs.length c2] 30))) := (Below.refl _ _).alloc (Nat.le_refl _) _
  have HB0 : Hid (BoxL (w.alloc (.cells #[.int .i64 kind, .slice a0 coef.length c0, .slice a1 vars.length c1, .int .i64 rel, .int .i64 C, .int .i64 x, .int .i64 y, .int .i64 z, .slice a2 vs.length c2] 30)) w.heap.size [.int .i64 kind, .slice a0 coef.length c0, .slice a1 vars.length c1, .int .i64 rel, .int .i64 C, .int .i64 x, .int .i64 y, .int .i64 z, .slice a2 vs.length c2]) := BoxL.mk' _ #[.int .i64 kind, .slice a0 coef.length c0, .slice a1 vars.length c1, .int .i64 rel, .int .i64 C, .int .i64 x, .int .i64 y, .int .i64 z, .slice a2 vs.length c2] _
  clear h0 h1 h2 hd
  unfold propV at CM CC ⊢
  unfold right16
  have CM1 := Lib.hid (CM.out _ HZ0.out)
  clear CM
  generalize hm : many16 coef vars vs ds = m at *
  clear hm
  generalize hr : relChk kind rel C x y z coef vars vs ds.length = r at *
  clear hr
  cases m
  · have CC1 : Hid (∀ W, Below w.heap.size w W → Calls Tryz.prog 42 #[.agg #[.int .i64 kind, .slice a0 coef.length c0, .slice a1 vars.length c1, .int .i64 rel, .int .i64 C, .int .i64 x, .int .i64 y, .int .i64 z, .slice a2 vs.length c2], .int .i64 ds.length] W fun e w' => e = .returned (.int .i64 r) ∧ Below W.heap.size W w') := fun W h => CC.out W h rfl
    clear CC
    by_cases hr0 : r = 0
    · subst hr0
      go_enter Tryz.func18, Tryz.ntmps18
      go_wp2_with (first
        | (go_at_call 17; (with_reducible refine CM1.out.mono ?_); rintro e W1 ⟨rfl, bb⟩; have B1 := Lib.hid (HZ0.out.trans (bb.mono HZ0.out.size)); have L1 := Lib.hid (HB0.out.below bb (by simp)); obtain ⟨l0, _⟩ := L1.out.get 0 rfl; obtain ⟨l1, _⟩ := L1.out.get 1 rfl; obtain ⟨l2, _⟩ := L1.out.get 2 rfl; obtain ⟨l3, _⟩ := L1.out.get 3 rfl; obtain ⟨l4, _⟩ := L1.out.get 4 rfl; obtain ⟨l5, _⟩ := L1.out.get 5 rfl; obtain ⟨l6, _⟩ := L1.out.get 6 rfl; obtain ⟨l7, _⟩ := L1.out.get 7 rfl; obtain ⟨l8, _⟩ := L1.out.get 8 rfl; clear bb)
        | (go_at_call 42; (with_reducible refine (CC1.out _ B1.out).mono ?_); rintro e W2 ⟨rfl, bb⟩; have B2 := Lib.hid (B1.out.trans (bb.mono B1.out.size)); clear bb))
      go_ret
      exact ⟨ret_bool (by simp), B2.out⟩
    · have hr1 : (r == 0) = false := beqf hr0
      go_enter Tryz.func18, Tryz.ntmps18
      go_wp2_with (first
        | (go_at_call 17; (with_reducible refine CM1.out.mono ?_); rintro e W1 ⟨rfl, bb⟩; have B1 := Lib.hid (HZ0.out.trans (bb.mono HZ0.out.size)); have L1 := Lib.hid (HB0.out.below bb (by simp)); obtain ⟨l0, _⟩ := L1.out.get 0 rfl; obtain ⟨l1, _⟩ := L1.out.get 1 rfl; obtain ⟨l2, _⟩ := L1.out.get 2 rfl; obtain ⟨l3, _⟩ := L1.out.get 3 rfl; obtain ⟨l4, _⟩ := L1.out.get 4 rfl; obtain ⟨l5, _⟩ := L1.out.get 5 rfl; obtain ⟨l6, _⟩ := L1.out.get 6 rfl; obtain ⟨l7, _⟩ := L1.out.get 7 rfl; obtain ⟨l8, _⟩ := L1.out.get 8 rfl; clear bb)
        | (go_at_call 42; (with_reducible refine (CC1.out _ B1.out).mono ?_); rintro e W2 ⟨rfl, bb⟩; have B2 := Lib.hid (B1.out.trans (bb.mono B1.out.size)); clear bb))
      go_ret
      exact ⟨ret_bool (by simp [hr0]), B2.out⟩
  · go_enter Tryz.func18, Tryz.ntmps18
    go_wp2_with (go_at_call 17; (with_reducible refine CM1.out.mono ?_); rintro e W1 ⟨rfl, bb⟩; have B1 := Lib.hid (HZ0.out.trans (bb.mono HZ0.out.size)); clear bb)
    go_ret
    exact ⟨ret_bool (by simp), B1.out⟩
end Go.Proofs.YtajooiainglpmaaGreat
namespace Go.Proofs.YtajooiainglpmaaGreat
open Go.RowKit

/-- values of the domains -/
structure PickedX (ds : Ds) (xs : List Int) : Prop where
  len : xs.length = ds.length
  has : ∀ j, j < ds.length → memL (norm (ds.getD j [])) (xs.getD j 0) = true
  bnd : ∀ z ∈ xs, -200 ≤ z ∧ z ≤ 200

theorem relCheck_none (kind : Int) (n : Int) (w : World) (r : Int) (hr : relChk kind 0 0 0 0 0 [] [] [] n = r) :
    Calls Tryz.prog 19 #[propV kind (.slice none 0 0) (.slice none 0 0) 0 0 0 0 0 (.slice none 0 0), .int .i64 n] w fun e w' => e = .returned (.int .i64 r) ∧ Below w.heap.size w w' := by
  have h : ∀ w : World, IsAt w (.slice none 0 0) [] := fun w => SlAt.nil
  rw [← hr]
  exact check_c kind _ _ _ 0 0 0 0 0 n [] [] [] w (h w) (h w) (h w) (by simp) (by simp) (by simp)
theorem relCheck_2 (w : World) : Calls Tryz.prog 19 #[.agg #[.int .i64 2, .slice none 0 0, .slice none 0 0, .int .i64 0, .int .i64 0, .int .i64 0, .int .i64 0, .int .i64 0, .slice none 0 0], .int .i64 0] w fun e w' => e = .returned (.int .i64 160) ∧ Below w.heap.size w w' := relCheck_none 2 0 w 160 (by decide)
theorem relCheck_3 (w : World) : Calls Tryz.prog 19 #[.agg #[.int .i64 3, .slice none 0 0, .slice none 0 0, .int .i64 0, .int .i64 0, .int .i64 0, .int .i64 0, .int .i64 0, .slice none 0 0], .int .i64 0] w fun e w' => e = .returned (.int .i64 0) ∧ Below w.heap.size w w' := relCheck_none 3 0 w 0 (by decide)
theorem relCheck_9 (w : World) : Calls Tryz.prog 19 #[.agg #[.int .i64 9, .slice none 0 0, .slice none 0 0, .int .i64 0, .int .i64 0, .int .i64 0, .int .i64 0, .int .i64 0, .slice none 0 0], .int .i64 0] w fun e w' => e = .returned (.int .i64 1) ∧ Below w.heap.size w w' := relCheck_none 9 0 w 1 (by decide)
end Go.Proofs.YtajooiainglpmaaGreat
