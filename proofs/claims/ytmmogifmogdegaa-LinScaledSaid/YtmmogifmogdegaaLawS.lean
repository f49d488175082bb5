/-
  LinScaled, walked.
-/
import Derived.Test.YtmmogifmogdegaaLawL
import Derived.Test.YtmmogifmogdegaaSame
namespace Go.Proofs.Ytmmogifmogdegaa
open Go.RowKit

theorem isAt_one (w : World) (z : Int) (T : TypeId) : IsAt (w.alloc (.cells #[.int .i64 z] T)) (.slice (some ⟨w.heap.size, 0, none⟩) 1 1) [z] :=
  SlAt.of_own (e := T) (World.ownsRow_lit (base := 0) w #[.int .i64 z] 1 (Nat.zero_le _) (by simp [maxLen]) rfl)
theorem mul_bnd20 (c k : Int) (hc : -1048576 ≤ c ∧ c ≤ 1048576) (hk : 0 ≤ k ∧ k ≤ 20) : -20971520 ≤ c * k ∧ c * k ≤ 20971520 := by
  have h1 : (c * k).natAbs ≤ 1048576 * 20 := by
    rw [Int.natAbs_mul]; exact Nat.mul_le_mul (by omega) (by omega)
  omega
theorem scale_zip (k : Int) : ∀ (a b : List Int), (a.map (· * k)).zip b = scaleP k (a.zip b)
  | [], _ => rfl
  | x :: a, [] => rfl
  | x :: a, y :: b => by simp only [List.map_cons, List.zip_cons_cons, scale_zip k a b]; rfl

set_option maxRecDepth 100000 in
set_option maxHeartbeats 6400000 in
theorem linScaled_bad1 (va vb vds : Value) (rel C u : Int) (coef vars : List Int) (ds : Ds) (w : World) (h0 : IsAt w va coef) (h1 : IsAt w vb vars) (hd : DsAt w vds ds) (hu : 0 ≤ u ∧ u ≤ 255) (hm : manyB coef vars ds = true) :
    Calls Try.prog 5 #[.agg #[va, vb, .int .i64 rel, .int .i64 C], vds, .int .u8 u] w fun e w' => e = .returned (.bool true) ∧ Below w.heap.size w w' := by
  have HZ0 : Hid (Below w.heap.size w (w.alloc (.cells #[va, vb, .int .i64 rel, .int .i64 C] 24))) := (Below.refl _ _).alloc (Nat.le_refl _) _
  have HB0 : Hid (BoxL (w.alloc (.cells #[va, vb, .int .i64 rel, .int .i64 C] 24)) w.heap.size [va, vb, .int .i64 rel, .int .i64 C]) := BoxL.mk' _ #[va, vb, .int .i64 rel, .int .i64 C] _
  have CM := Lib.hid (fun W (h : Below w.heap.size w W) => lawMany_c va vb vds rel C coef vars ds W (h0.below h) (h1.below h) (hd.below h))
  have H0 := Lib.hid h0
  have H1 := Lib.hid h1
  have HD := Lib.hid hd
  obtain ⟨a0, c0, rfl, _⟩ := IsAt.shape h0
  obtain ⟨a1, c1, rfl, _⟩ := IsAt.shape h1
  obtain ⟨a2, c2, rfl, _⟩ := hd.shape
  obtain ⟨hu1, hu2⟩ := hu
  clear h0 h1 hd
  have CK : Hid (∀ W, Calls Try.prog 8 #[.agg #[.slice (some ⟨W.heap.size, 0, none⟩) 1 1, .slice (some ⟨W.heap.size + 1, 0, none⟩) 1 1, .int .i64 1, .int .i64 0], .int .i64 1] ((W.alloc (.cells #[.int .i64 1] 3)).alloc (.cells #[.int .i64 1] 3)) fun e w' => e = .returned (.int .i64 160) ∧ Below W.heap.size W w') := fun W => by
    have e1 : (W.alloc (.cells #[.int .i64 1] 3)).heap.size = W.heap.size + 1 := by simp
    have i0 : IsAt ((W.alloc (.cells #[.int .i64 1] 3)).alloc (.cells #[.int .i64 1] 3)) (.slice (some ⟨W.heap.size, 0, none⟩) 1 1) [1] := IsAt.alloc (isAt_one W 1 3) _
    have i1 : IsAt ((W.alloc (.cells #[.int .i64 1] 3)).alloc (.cells #[.int .i64 1] 3)) (.slice (some ⟨W.heap.size + 1, 0, none⟩) 1 1) [1] := by
      have h := isAt_one (W.alloc (.cells #[.int .i64 1] 3)) 1 3
      rwa [e1] at h
    refine (linCheck_any _ _ 1 0 1 [1] [1] _ i0 i1 (by simp) (by simp)).mono fun e w' ⟨he, hb⟩ => ⟨he, ?_⟩
    exact (((Below.refl _ _).alloc (Nat.le_refl _) _).alloc (by simp) _).trans (hb.mono (by simp; omega))
  have CM1 := Lib.hid (CM.out _ HZ0.out)
  rw [hm] at CM1
  clear hm CM
  go_enter Try.func5, Try.ntmps5
  go_wp2_with (first
    | (go_at_call 13; (with_reducible refine (CM1.out).mono ?_); rintro e W1 ⟨rfl, bb⟩; have B1 := Lib.hid (HZ0.out.trans (bb.mono HZ0.out.size)); have L1 := Lib.hid (HB0.out.below bb (by simp)); obtain ⟨l01, _⟩ := L1.out.get 0 rfl; obtain ⟨l11, _⟩ := L1.out.get 1 rfl; obtain ⟨l21, _⟩ := L1.out.get 2 rfl; obtain ⟨l31, _⟩ := L1.out.get 3 rfl; clear bb)
    | (go_at_call 8; (with_reducible refine (CK.out W1).mono ?_); rintro e W9 ⟨rfl, bb⟩; have B9 := Lib.hid (B1.out.trans (bb.mono B1.out.size)); clear bb))
  go_ret
  exact ⟨rfl, B9.out⟩
set_option maxRecDepth 100000 in
set_option maxHeartbeats 6400000 in
theorem linScaled_bad2 (va vb vds : Value) (rel C u : Int) (coef vars : List Int) (ds : Ds) (w : World) (h0 : IsAt w va coef) (h1 : IsAt w vb vars) (hd : DsAt w vds ds) (hu : 0 ≤ u ∧ u ≤ 255) (hm : manyB coef vars ds = false) (hck : ¬ linChk coef vars rel C ds.length = 0) :
    Calls Try.prog 5 #[.agg #[va, vb, .int .i64 rel, .int .i64 C], vds, .int .u8 u] w fun e w' => e = .returned (.bool true) ∧ Below w.heap.size w w' := by
  have HZ0 : Hid (Below w.heap.size w (w.alloc (.cells #[va, vb, .int .i64 rel, .int .i64 C] 24))) := (Below.refl _ _).alloc (Nat.le_refl _) _
  have HB0 : Hid (BoxL (w.alloc (.cells #[va, vb, .int .i64 rel, .int .i64 C] 24)) w.heap.size [va, vb, .int .i64 rel, .int .i64 C]) := BoxL.mk' _ #[va, vb, .int .i64 rel, .int .i64 C] _
  have CM := Lib.hid (fun W (h : Below w.heap.size w W) => lawMany_c va vb vds rel C coef vars ds W (h0.below h) (h1.below h) (hd.below h))
  have H0 := Lib.hid h0
  have H1 := Lib.hid h1
  have HD := Lib.hid hd
  obtain ⟨a0, c0, rfl, _⟩ := IsAt.shape h0
  obtain ⟨a1, c1, rfl, _⟩ := IsAt.shape h1
  obtain ⟨a2, c2, rfl, _⟩ := hd.shape
  obtain ⟨hu1, hu2⟩ := hu
  clear h0 h1 hd
  have CK : Hid (∀ W, Calls Try.prog 8 #[.agg #[.slice (some ⟨W.heap.size, 0, none⟩) 1 1, .slice (some ⟨W.heap.size + 1, 0, none⟩) 1 1, .int .i64 1, .int .i64 0], .int .i64 1] ((W.alloc (.cells #[.int .i64 1] 3)).alloc (.cells #[.int .i64 1] 3)) fun e w' => e = .returned (.int .i64 160) ∧ Below W.heap.size W w') := fun W => by
    have e1 : (W.alloc (.cells #[.int .i64 1] 3)).heap.size = W.heap.size + 1 := by simp
    have i0 : IsAt ((W.alloc (.cells #[.int .i64 1] 3)).alloc (.cells #[.int .i64 1] 3)) (.slice (some ⟨W.heap.size, 0, none⟩) 1 1) [1] := IsAt.alloc (isAt_one W 1 3) _
    have i1 : IsAt ((W.alloc (.cells #[.int .i64 1] 3)).alloc (.cells #[.int .i64 1] 3)) (.slice (some ⟨W.heap.size + 1, 0, none⟩) 1 1) [1] := by
      have h := isAt_one (W.alloc (.cells #[.int .i64 1] 3)) 1 3
      rwa [e1] at h
    refine (linCheck_any _ _ 1 0 1 [1] [1] _ i0 i1 (by simp) (by simp)).mono fun e w' ⟨he, hb⟩ => ⟨he, ?_⟩
    exact (((Below.refl _ _).alloc (Nat.le_refl _) _).alloc (by simp) _).trans (hb.mono (by simp; omega))
  obtain ⟨g1, g2, g3, g4⟩ := many_ok hm
  have CC : Hid (∀ W, Below w.heap.size w W → Calls Try.prog 9 #[.agg #[.slice a0 coef.length c0, .slice a1 vars.length c1, .int .i64 rel, .int .i64 C], .int .i64 ds.length] W fun e w' => e = .returned (.int .i64 (linChk coef vars rel C ds.length)) ∧ Below W.heap.size W w') :=
    fun W h => refCheck_any _ _ rel C _ coef vars W (H0.out.below h) (H1.out.below h) (by omega) (by omega)
  have CM1 := Lib.hid (CM.out _ HZ0.out)
  rw [hm] at CM1
  have hne : (linChk coef vars rel C ds.length != 0) = true := by simpa using hck
  clear hck hm CM g4
  generalize linChk coef vars rel C ds.length = ck at *
  go_enter Try.func5, Try.ntmps5
  go_wp2_with (first
    | (go_at_call 13; (with_reducible refine (CM1.out).mono ?_); rintro e W1 ⟨rfl, bb⟩; have B1 := Lib.hid (HZ0.out.trans (bb.mono HZ0.out.size)); have L1 := Lib.hid (HB0.out.below bb (by simp)); obtain ⟨l01, _⟩ := L1.out.get 0 rfl; obtain ⟨l11, _⟩ := L1.out.get 1 rfl; obtain ⟨l21, _⟩ := L1.out.get 2 rfl; obtain ⟨l31, _⟩ := L1.out.get 3 rfl; clear bb)
    | (go_at_call 9; (with_reducible refine (CC.out _ B1.out).mono ?_); rintro e W3 ⟨rfl, bb⟩; have B3 := Lib.hid (B1.out.trans (bb.mono B1.out.size)); have L3 := Lib.hid (L1.out.below bb (by have := L1.out.lt (by simp); omega)); obtain ⟨l03, _⟩ := L3.out.get 0 rfl; obtain ⟨l13, _⟩ := L3.out.get 1 rfl; obtain ⟨l23, _⟩ := L3.out.get 2 rfl; obtain ⟨l33, _⟩ := L3.out.get 3 rfl; clear bb)
    | (go_at_call 8; (with_reducible refine (CK.out W3).mono ?_); rintro e W9 ⟨rfl, bb⟩; have B9 := Lib.hid (B3.out.trans (bb.mono B3.out.size)); clear bb))
  go_ret
  exact ⟨rfl, B9.out⟩
set_option maxRecDepth 100000 in
set_option maxHeartbeats 6400000 in
theorem linScaled_bad3 (va vb vds : Value) (rel C u : Int) (coef vars : List Int) (ds : Ds) (w : World) (h0 : IsAt w va coef) (h1 : IsAt w vb vars) (hd : DsAt w vds ds) (hu : 0 ≤ u ∧ u ≤ 255) (hm : manyB coef vars ds = false) (hck : linChk coef vars rel C ds.length = 0) (hC1 : 1048576 < C) :
    Calls Try.prog 5 #[.agg #[va, vb, .int .i64 rel, .int .i64 C], vds, .int .u8 u] w fun e w' => e = .returned (.bool true) ∧ Below w.heap.size w w' := by
  have HZ0 : Hid (Below w.heap.size w (w.alloc (.cells #[va, vb, .int .i64 rel, .int .i64 C] 24))) := (Below.refl _ _).alloc (Nat.le_refl _) _
  have HB0 : Hid (BoxL (w.alloc (.cells #[va, vb, .int .i64 rel, .int .i64 C] 24)) w.heap.size [va, vb, .int .i64 rel, .int .i64 C]) := BoxL.mk' _ #[va, vb, .int .i64 rel, .int .i64 C] _
  have CM := Lib.hid (fun W (h : Below w.heap.size w W) => lawMany_c va vb vds rel C coef vars ds W (h0.below h) (h1.below h) (hd.below h))
  have H0 := Lib.hid h0
  have H1 := Lib.hid h1
  have HD := Lib.hid hd
  obtain ⟨a0, c0, rfl, _⟩ := IsAt.shape h0
  obtain ⟨a1, c1, rfl, _⟩ := IsAt.shape h1
  obtain ⟨a2, c2, rfl, _⟩ := hd.shape
  obtain ⟨hu1, hu2⟩ := hu
  clear h0 h1 hd
  have CK : Hid (∀ W, Calls Try.prog 8 #[.agg #[.slice (some ⟨W.heap.size, 0, none⟩) 1 1, .slice (some ⟨W.heap.size + 1, 0, none⟩) 1 1, .int .i64 1, .int .i64 0], .int .i64 1] ((W.alloc (.cells #[.int .i64 1] 3)).alloc (.cells #[.int .i64 1] 3)) fun e w' => e = .returned (.int .i64 160) ∧ Below W.heap.size W w') := fun W => by
    have e1 : (W.alloc (.cells #[.int .i64 1] 3)).heap.size = W.heap.size + 1 := by simp
    have i0 : IsAt ((W.alloc (.cells #[.int .i64 1] 3)).alloc (.cells #[.int .i64 1] 3)) (.slice (some ⟨W.heap.size, 0, none⟩) 1 1) [1] := IsAt.alloc (isAt_one W 1 3) _
    have i1 : IsAt ((W.alloc (.cells #[.int .i64 1] 3)).alloc (.cells #[.int .i64 1] 3)) (.slice (some ⟨W.heap.size + 1, 0, none⟩) 1 1) [1] := by
      have h := isAt_one (W.alloc (.cells #[.int .i64 1] 3)) 1 3
      rwa [e1] at h
    refine (linCheck_any _ _ 1 0 1 [1] [1] _ i0 i1 (by simp) (by simp)).mono fun e w' ⟨he, hb⟩ => ⟨he, ?_⟩
    exact (((Below.refl _ _).alloc (Nat.le_refl _) _).alloc (by simp) _).trans (hb.mono (by simp; omega))
  obtain ⟨g1, g2, g3, g4⟩ := many_ok hm
  have CC : Hid (∀ W, Below w.heap.size w W → Calls Try.prog 9 #[.agg #[.slice a0 coef.length c0, .slice a1 vars.length c1, .int .i64 rel, .int .i64 C], .int .i64 ds.length] W fun e w' => e = .returned (.int .i64 (linChk coef vars rel C ds.length)) ∧ Below W.heap.size W w') :=
    fun W h => refCheck_any _ _ rel C _ coef vars W (H0.out.below h) (H1.out.below h) (by omega) (by omega)
  have CM1 := Lib.hid (CM.out _ HZ0.out)
  rw [hm] at CM1
  rw [hck] at CC
  clear hck hm CM g4
  go_enter Try.func5, Try.ntmps5
  go_wp2_with (first
    | (go_at_call 13; (with_reducible refine (CM1.out).mono ?_); rintro e W1 ⟨rfl, bb⟩; have B1 := Lib.hid (HZ0.out.trans (bb.mono HZ0.out.size)); have L1 := Lib.hid (HB0.out.below bb (by simp)); obtain ⟨l01, _⟩ := L1.out.get 0 rfl; obtain ⟨l11, _⟩ := L1.out.get 1 rfl; obtain ⟨l21, _⟩ := L1.out.get 2 rfl; obtain ⟨l31, _⟩ := L1.out.get 3 rfl; clear bb)
    | (go_at_call 9; (with_reducible refine (CC.out _ B1.out).mono ?_); rintro e W3 ⟨rfl, bb⟩; have B3 := Lib.hid (B1.out.trans (bb.mono B1.out.size)); have L3 := Lib.hid (L1.out.below bb (by have := L1.out.lt (by simp); omega)); obtain ⟨l03, _⟩ := L3.out.get 0 rfl; obtain ⟨l13, _⟩ := L3.out.get 1 rfl; obtain ⟨l23, _⟩ := L3.out.get 2 rfl; obtain ⟨l33, _⟩ := L3.out.get 3 rfl; clear bb)
    | (go_at_call 8; (with_reducible refine (CK.out W3).mono ?_); rintro e W9 ⟨rfl, bb⟩; have B9 := Lib.hid (B3.out.trans (bb.mono B3.out.size)); clear bb))
  go_ret
  exact ⟨rfl, B9.out⟩
set_option maxRecDepth 100000 in
set_option maxHeartbeats 6400000 in
theorem linScaled_bad4 (va vb vds : Value) (rel C u : Int) (coef vars : List Int) (ds : Ds) (w : World) (h0 : IsAt w va coef) (h1 : IsAt w vb vars) (hd : DsAt w vds ds) (hu : 0 ≤ u ∧ u ≤ 255) (hm : manyB coef vars ds = false) (hck : linChk coef vars rel C ds.length = 0) (hC1 : C < -1048576) :
    Calls Try.prog 5 #[.agg #[va, vb, .int .i64 rel, .int .i64 C], vds, .int .u8 u] w fun e w' => e = .returned (.bool true) ∧ Below w.heap.size w w' := by
  have HZ0 : Hid (Below w.heap.size w (w.alloc (.cells #[va, vb, .int .i64 rel, .int .i64 C] 24))) := (Below.refl _ _).alloc (Nat.le_refl _) _
  have HB0 : Hid (BoxL (w.alloc (.cells #[va, vb, .int .i64 rel, .int .i64 C] 24)) w.heap.size [va, vb, .int .i64 rel, .int .i64 C]) := BoxL.mk' _ #[va, vb, .int .i64 rel, .int .i64 C] _
  have CM := Lib.hid (fun W (h : Below w.heap.size w W) => lawMany_c va vb vds rel C coef vars ds W (h0.below h) (h1.below h) (hd.below h))
  have H0 := Lib.hid h0
  have H1 := Lib.hid h1
  have HD := Lib.hid hd
  obtain ⟨a0, c0, rfl, _⟩ := IsAt.shape h0
  obtain ⟨a1, c1, rfl, _⟩ := IsAt.shape h1
  obtain ⟨a2, c2, rfl, _⟩ := hd.shape
  obtain ⟨hu1, hu2⟩ := hu
  clear h0 h1 hd
  have CK : Hid (∀ W, Calls Try.prog 8 #[.agg #[.slice (some ⟨W.heap.size, 0, none⟩) 1 1, .slice (some ⟨W.heap.size + 1, 0, none⟩) 1 1, .int .i64 1, .int .i64 0], .int .i64 1] ((W.alloc (.cells #[.int .i64 1] 3)).alloc (.cells #[.int .i64 1] 3)) fun e w' => e = .returned (.int .i64 160) ∧ Below W.heap.size W w') := fun W => by
    have e1 : (W.alloc (.cells #[.int .i64 1] 3)).heap.size = W.heap.size + 1 := by simp
    have i0 : IsAt ((W.alloc (.cells #[.int .i64 1] 3)).alloc (.cells #[.int .i64 1] 3)) (.slice (some ⟨W.heap.size, 0, none⟩) 1 1) [1] := IsAt.alloc (isAt_one W 1 3) _
    have i1 : IsAt ((W.alloc (.cells #[.int .i64 1] 3)).alloc (.cells #[.int .i64 1] 3)) (.slice (some ⟨W.heap.size + 1, 0, none⟩) 1 1) [1] := by
      have h := isAt_one (W.alloc (.cells #[.int .i64 1] 3)) 1 3
      rwa [e1] at h
    refine (linCheck_any _ _ 1 0 1 [1] [1] _ i0 i1 (by simp) (by simp)).mono fun e w' ⟨he, hb⟩ => ⟨he, ?_⟩
    exact (((Below.refl _ _).alloc (Nat.le_refl _) _).alloc (by simp) _).trans (hb.mono (by simp; omega))
  obtain ⟨g1, g2, g3, g4⟩ := many_ok hm
  have CC : Hid (∀ W, Below w.heap.size w W → Calls Try.prog 9 #[.agg #[.slice a0 coef.length c0, .slice a1 vars.length c1, .int .i64 rel, .int .i64 C], .int .i64 ds.length] W fun e w' => e = .returned (.int .i64 (linChk coef vars rel C ds.length)) ∧ Below W.heap.size W w') :=
    fun W h => refCheck_any _ _ rel C _ coef vars W (H0.out.below h) (H1.out.below h) (by omega) (by omega)
  have CM1 := Lib.hid (CM.out _ HZ0.out)
  rw [hm] at CM1
  rw [hck] at CC
  clear hck hm CM g4
  go_enter Try.func5, Try.ntmps5
  go_wp2_with (first
    | (go_at_call 13; (with_reducible refine (CM1.out).mono ?_); rintro e W1 ⟨rfl, bb⟩; have B1 := Lib.hid (HZ0.out.trans (bb.mono HZ0.out.size)); have L1 := Lib.hid (HB0.out.below bb (by simp)); obtain ⟨l01, _⟩ := L1.out.get 0 rfl; obtain ⟨l11, _⟩ := L1.out.get 1 rfl; obtain ⟨l21, _⟩ := L1.out.get 2 rfl; obtain ⟨l31, _⟩ := L1.out.get 3 rfl; clear bb)
    | (go_at_call 9; (with_reducible refine (CC.out _ B1.out).mono ?_); rintro e W3 ⟨rfl, bb⟩; have B3 := Lib.hid (B1.out.trans (bb.mono B1.out.size)); have L3 := Lib.hid (L1.out.below bb (by have := L1.out.lt (by simp); omega)); obtain ⟨l03, _⟩ := L3.out.get 0 rfl; obtain ⟨l13, _⟩ := L3.out.get 1 rfl; obtain ⟨l23, _⟩ := L3.out.get 2 rfl; obtain ⟨l33, _⟩ := L3.out.get 3 rfl; clear bb)
    | (go_at_call 8; (with_reducible refine (CK.out W3).mono ?_); rintro e W9 ⟨rfl, bb⟩; have B9 := Lib.hid (B3.out.trans (bb.mono B3.out.size)); clear bb))
  go_ret
  exact ⟨rfl, B9.out⟩
set_option maxRecDepth 100000 in
set_option maxHeartbeats 6400000 in
theorem linScaled_main (va vb vds : Value) (rel C u : Int) (coef vars : List Int) (ds : Ds) (w : World) (h0 : IsAt w va coef) (h1 : IsAt w vb vars) (hd : DsAt w vds ds) (hu : 0 ≤ u ∧ u ≤ 255) (hm : manyB coef vars ds = false) (hck : linChk coef vars rel C ds.length = 0) (hC1 : ¬ 1048576 < C) (hC2 : ¬ C < -1048576) :
    Calls Try.prog 5 #[.agg #[va, vb, .int .i64 rel, .int .i64 C], vds, .int .u8 u] w fun e w' => e = .returned (.bool true) ∧ Below w.heap.size w w' := by
  obtain ⟨i0, hi, hz0, hz1, hz2⟩ := info_parts Try.infoInt
  have HZ0 : Hid (Below w.heap.size w (w.alloc (.cells #[va, vb, .int .i64 rel, .int .i64 C] 24))) := (Below.refl _ _).alloc (Nat.le_refl _) _
  have HB0 : Hid (BoxL (w.alloc (.cells #[va, vb, .int .i64 rel, .int .i64 C] 24)) w.heap.size [va, vb, .int .i64 rel, .int .i64 C]) := BoxL.mk' _ #[va, vb, .int .i64 rel, .int .i64 C] _
  have CM := Lib.hid (fun W (h : Below w.heap.size w W) => lawMany_c va vb vds rel C coef vars ds W (h0.below h) (h1.below h) (hd.below h))
  have H0 := Lib.hid h0
  have H1 := Lib.hid h1
  have HD := Lib.hid hd
  obtain ⟨a0, c0, rfl, _⟩ := IsAt.shape h0
  obtain ⟨a1, c1, rfl, _⟩ := IsAt.shape h1
  obtain ⟨a2, c2, rfl, _⟩ := hd.shape
  obtain ⟨hu1, hu2⟩ := hu
  clear h0 h1 hd
  obtain ⟨g1, g2, g3, g4⟩ := many_ok hm
  have CC : Hid (∀ W, Below w.heap.size w W → Calls Try.prog 9 #[.agg #[.slice a0 coef.length c0, .slice a1 vars.length c1, .int .i64 rel, .int .i64 C], .int .i64 ds.length] W fun e w' => e = .returned (.int .i64 (linChk coef vars rel C ds.length)) ∧ Below W.heap.size W w') :=
    fun W h => refCheck_any _ _ rel C _ coef vars W (H0.out.below h) (H1.out.below h) (by omega) (by omega)
  have CM1 := Lib.hid (CM.out _ HZ0.out)
  rw [hm] at CM1
  rw [hck] at CC
  have hdl : ∀ d ∈ ds, d.length ≤ 4096 := fun d hd => by have := g4 d hd; omega
  obtain ⟨hg, hr, hC, hnz, hnd⟩ := chk_good hck hdl
  have hr1 : 0 ≤ u.tmod 20 := Int.tmod_nonneg _ hu1
  have hr2 : u.tmod 20 < 20 := Int.tmod_lt_of_pos u (by decide)
  generalize hrr : u.tmod 20 = rr at *
  have hCk := mul_bnd20 C (1 + rr) (by omega) (by omega)
  have wC := wrap_small (x := C * (1 + rr)) (by omega)
  have HCO := Lib.hid hg.coefs
  have HL := Lib.hid hg.len
  have HG := Lib.hid hg
  have HR := Lib.hid hr
  have HCC := Lib.hid hC
  have HNZ := Lib.hid hnz
  have HND := Lib.hid hnd
  have HDD := Lib.hid hdl
  clear hck hm CM g4 hg hr hC hnz hnd hdl
  go_enter Try.func5, Try.ntmps5
  go_wp2_with (first
    | (go_at_call 13; (with_reducible refine (CM1.out).mono ?_); rintro e W1 ⟨rfl, bb⟩; have B1 := Lib.hid (HZ0.out.trans (bb.mono HZ0.out.size)); have L1 := Lib.hid (HB0.out.below bb (by simp)); obtain ⟨l01, _⟩ := L1.out.get 0 rfl; obtain ⟨l11, _⟩ := L1.out.get 1 rfl; obtain ⟨l21, _⟩ := L1.out.get 2 rfl; obtain ⟨l31, _⟩ := L1.out.get 3 rfl; clear bb)
    | (go_at_call 9; (with_reducible refine (CC.out _ B1.out).mono ?_); rintro e W3 ⟨rfl, bb⟩; have B3 := Lib.hid (B1.out.trans (bb.mono B1.out.size)); have L3 := Lib.hid (L1.out.below bb (by have := L1.out.lt (by simp); omega)); obtain ⟨l03, _⟩ := L3.out.get 0 rfl; obtain ⟨l13, _⟩ := L3.out.get 1 rfl; obtain ⟨l23, _⟩ := L3.out.get 2 rfl; obtain ⟨l33, _⟩ := L3.out.get 3 rfl; clear bb))
  have HM3 : Hid (BoxL (W3.alloc (.cells #[.slice none 0 0, .slice none 0 0, .int .i64 rel, .int .i64 (C * (1 + rr))] 24)) W3.heap.size [.slice none 0 0, .slice none 0 0, .int .i64 rel, .int .i64 (C * (1 + rr))]) := BoxL.mk' _ #[.slice none 0 0, .slice none 0 0, .int .i64 rel, .int .i64 (C * (1 + rr))] _
  have B4 : Hid (Below w.heap.size w (W3.alloc (.cells #[.slice none 0 0, .slice none 0 0, .int .i64 rel, .int .i64 (C * (1 + rr))] 24))) := B3.out.alloc B3.out.size _
  have hl3 := L3.out.lt (by simp)
  have L4 := Lib.hid (L3.out.below ((Below.refl W3.heap.size W3).alloc (Nat.le_refl _) (.cells #[.slice none 0 0, .slice none 0 0, .int .i64 rel, .int .i64 (C * (1 + rr))] 24)) hl3)
  have hsz4 : W3.heap.size + 1 ≤ (W3.alloc (.cells #[.slice none 0 0, .slice none 0 0, .int .i64 rel, .int .i64 (C * (1 + rr))] 24)).heap.size := by simp
  have hk1 : 1 ≤ 1 + rr := by omega
  have hk2 : 1 + rr ≤ 20 := by omega
  clear l01 l11 l21 l31 l03 l13 l23 l33 CM1 HZ0 HB0 L1 L3 B1 B3 hr1 hr2 wC
  generalize (W3.alloc (.cells #[.slice none 0 0, .slice none 0 0, .int .i64 rel, .int .i64 (C * (1 + rr))] 24)) = W4 at *
  generalize W3.heap.size = NB at *
  generalize 1 + rr = kk at *
  go_loopw [9] (fun s wr => ∃ k : Nat, ∃ v0 v1 : Value, k ≤ coef.length ∧ s = .int .i64 k ∧ Hid (BoxL wr w.heap.size [.slice a0 coef.length c0, .slice a1 vars.length c1, .int .i64 rel, .int .i64 C]) ∧ Hid (BoxL wr NB [v0, v1, .int .i64 rel, .int .i64 (C * kk)]) ∧
      wr.ownsRow (NB + 1) 3 1 v0 ((coef.take k).map (· * kk)).length (((coef.take k).map (· * kk)).map (Value.int .i64)) ∧ wr.ownsRow (NB + 1) 3 1 v1 (vars.take k).length ((vars.take k).map (Value.int .i64)) ∧ Hid (Apart v0 v1) ∧ Hid (Below w.heap.size w wr) ∧ NB + 1 ≤ wr.heap.size) (fun s _ => coef.length - (intOf s).toNat)
  case atStart => exact ⟨0, .slice none 0 0, .slice none 0 0, by omega, rfl, L4, HM3, World.ownsRow_nil _ _ _ _, World.ownsRow_nil _ _ _ _, fun b h => by simp [Value.ownBlock] at h, B4, hsz4⟩
  case round =>
    clear HM3 B4 L4 hsz4
    obtain ⟨k, v0, v1, hk, rfl, HBL, HBM, own0, own1, HAP, HBW, hsz⟩ := hrel
    have hbl : ((coef.take k).map (· * kk)).length ≤ coef.length := by rw [List.length_map, List.length_take]; omega
    have hbv : (vars.take k).length ≤ vars.length := by rw [List.length_take]; omega
    by_cases hlt : k < coef.length
    · obtain ⟨b0, o0, rfl, hq0, hb0, x0⟩ := H0.out.get k hlt
      obtain ⟨b1, o1, rfl, hq1, hb1, x1⟩ := H1.out.get k (by have := HL.out; omega)
      have hcb := HCO.out _ (List.getElem_mem hlt)
      have S0 : Hid ((coef.take (k + 1)).map (· * kk) = (coef.take k).map (· * kk) ++ [coef[k] * kk]) := by
        show _ = _
        rw [List.take_succ_eq_append_getElem hlt, List.map_append]; rfl
      have S1 : Hid (vars.take (k + 1) = vars.take k ++ [vars[k]'(by have := HL.out; omega)]) := List.take_succ_eq_append_getElem (by have := HL.out; omega)
      have j1 : (k : Int) < vars.length := by have := HL.out; omega
      have j2 : (k : Int) < coef.length := by omega
      have j3 : (k : Int) ≤ 16 := by omega
      generalize coef[k] = y0 at *
      generalize vars[k]'(by have := HL.out; omega) = y1 at *
      have hyk := mul_bnd20 y0 kk (by omega) (by omega)
      have wy := wrap_small (x := y0 * kk) (by omega)
      rw [← HBW.out.cell (p := ⟨b0, o0 + k, none⟩) hb0] at x0
      rw [← HBW.out.cell (p := ⟨b1, o1 + k, none⟩) hb1] at x1
      obtain ⟨l0, _⟩ := HBL.out.get 0 rfl
      obtain ⟨l1, _⟩ := HBL.out.get 1 rfl
      obtain ⟨m0, mf0⟩ := HBM.out.get 0 rfl
      obtain ⟨m1, mf1⟩ := HBM.out.get 1 rfl
      generalize (coef.take k).map (· * kk) = O0 at *
      generalize vars.take k = O1 at *
      obtain ⟨oa, oc, rfl, _⟩ := (SlAt.of_own own0).shape
      obtain ⟨ob, od, rfl, _⟩ := (SlAt.of_own own1).shape
      have n1 : ¬ b0 = NB := by omega
      have n2 : ¬ b1 = NB := by omega
      have HS : Hid (∀ W', Below (NB + 1) wr W' → W'.cell? ⟨w.heap.size, 0, none⟩ = some (.slice (some ⟨b0, o0, none⟩) coef.length c0) ∧ W'.cell? ⟨b0, o0 + k, none⟩ = some (.int .i64 y0) ∧ W'.frozen? ⟨NB, 0, none⟩ = false) := fun W' h =>
        ⟨((HBL.out.below h (by omega)).get 0 rfl).1, (h.cell (p := ⟨b0, o0 + k, none⟩) (by simp; omega)).trans x0, ((HBM.out.below h (by omega)).get 0 rfl).2⟩
      have hq : ¬ NB = wr.heap.size := by omega
      have HA : Hid (∀ o, Below (NB + 1) wr (wr.alloc o).drew) := fun o => below_drewN ((Below.refl (NB + 1) wr).alloc hsz _) 1
      have ma : ∀ o, (wr.alloc o).cell? ⟨NB, 0, none⟩ = some (.slice oa O0.length oc) := fun o => Lib.cell?_alloc_some o m0
      go_upto_region 8 with fail
      go_cut [69] (fun p wx => ∃ v0' : Value, Hid (BoxL wx w.heap.size [.slice (some ⟨b0, o0, none⟩) coef.length c0, .slice (some ⟨b1, o1, none⟩) vars.length c1, .int .i64 rel, .int .i64 C]) ∧ Hid (BoxL wx (NB) [v0', .slice ob O1.length od, .int .i64 rel, .int .i64 (C * kk)]) ∧
        wx.ownsRow (NB + 1) 3 1 v0' (O0.length + 1) (O0.map (Value.int .i64) ++ [.int .i64 (y0 * kk)]) ∧ wx.ownsRow (NB + 1) 3 1 (.slice ob O1.length od) O1.length (O1.map (Value.int .i64)) ∧ Hid (Apart v0' (.slice ob O1.length od)) ∧ Hid (Below w.heap.size w wx) ∧ NB + 1 ≤ wx.heap.size ∧ wx.cell? ⟨b1, o1 + k, none⟩ = some (.int .i64 y1))
      case first =>
        go_region_law
          ((refine step_append1 rfl (.tmp 60) (.tmp 68) 22 rfl (NB + 1) 3 i0 (.int .i64 0) 8 Try.underlying22 hi hz0 hz1 hz2 rfl _ _ _ rfl (World.ownsRow.drew (own0.alloc _)) (.int .i64 (y0 * kk)) _ rfl ?_ rfl ?_ ?_ ?_; (· simp); (· omega); (· simp; omega); intro g1 cap1 w1 ow bw kw aw; have mm := ((HBM.out.below ((HA.out _).trans bw) (by omega)).get 0 rfl).1; have mf := ((HBM.out.below ((HA.out _).trans bw) (by omega)).get 0 rfl).2))
        all_goals
          have HB1 := Lib.hid ((HA.out _).trans bw)
          have HO1 := Lib.hid ow
          have BL1 := Lib.hid (HBL.out.below HB1.out (by omega))
          have BM1 := Lib.hid (HBM.out.below HB1.out (by omega))
          have OW1 := Lib.hid (own_kept (World.ownsRow.drew (own1.alloc _)) kw (HAP.out.symm))
          have AP1 := Lib.hid (apart_new (m := O0.length + 1) (c := cap1) (World.ownsRow.drew (own1.alloc _)) HAP.out aw)
          have HW1 := Lib.hid ((below_drewN (HBW.out.alloc (by omega) _) 1).trans (bw.mono (by omega)))
          have hs1 := HB1.out.size
          go_wp2_with fail
          go_meet
          exact ⟨_, Lib.hid (BL1.out.far (a := ⟨NB, 0, none⟩) (by dsimp only; omega) _), Lib.hid (BM1.out.set 0 (by simp) (.slice (some ⟨g1, 0, none⟩) (O0.length + 1) cap1)), own_setCell HO1.out (a := ⟨NB, 0, none⟩) (Nat.lt_succ_self _) _, own_setCell OW1.out (a := ⟨NB, 0, none⟩) (Nat.lt_succ_self _) _, AP1, Lib.hid (HW1.out.setCell (p := ⟨NB, 0, none⟩) (by dsimp only; omega) _), by simp [World.setCell]; omega,
            cell_far ((HB1.out.cell (p := ⟨b1, o1 + k, none⟩) (by dsimp only; omega)).trans x1) (a := ⟨NB, 0, none⟩) (by dsimp only; omega) _⟩
      case rest =>
        obtain ⟨v0', HBL2, HBM2, ow0, ow1, HAP2, HBW2, hsz2, x1'⟩ := hcut
        clear HBL HBM own0 own1 HAP HBW x0 x1 l0 l1 m0 m1 mf0 mf1 ma HS HA hq hsz
        obtain ⟨oe, of, rfl, _⟩ := (SlAt.of_own ow0).shape
        obtain ⟨l1, _⟩ := HBL2.out.get 1 rfl
        obtain ⟨m1, mf1⟩ := HBM2.out.get 1 rfl
        have HA : Hid (∀ o, Below (NB + 1) wc (wc.alloc o).drew) := fun o => below_drewN ((Below.refl (NB + 1) wc).alloc hsz2 _) 1
        have ma : ∀ o, (wc.alloc o).cell? ⟨NB, 1, none⟩ = some (.slice ob O1.length od) := fun o => Lib.cell?_alloc_some o m1
        go_wp2
        go_region_law
            ((refine step_append1 rfl (.tmp 72) (.tmp 78) 22 rfl (NB + 1) 3 i0 (.int .i64 0) 8 Try.underlying22 hi hz0 hz1 hz2 rfl _ _ _ rfl (World.ownsRow.drew (ow1.alloc _)) (.int .i64 y1) _ rfl ?_ rfl ?_ ?_ ?_; (· simp); (· omega); (· simp; omega); intro g1 cap1 w1 ow bw kw aw; have mm := ((HBM2.out.below ((HA.out _).trans bw) (by omega)).get 1 rfl).1; have mf := ((HBM2.out.below ((HA.out _).trans bw) (by omega)).get 1 rfl).2))
        all_goals
          have HB1 := Lib.hid ((HA.out _).trans bw)
          have HO1 := Lib.hid ow
          have BL1 := Lib.hid (HBL2.out.below HB1.out (by omega))
          have BM1 := Lib.hid (HBM2.out.below HB1.out (by omega))
          have OW1 := Lib.hid (own_kept (World.ownsRow.drew (ow0.alloc _)) kw HAP2.out)
          have AP1 := Lib.hid (apart_new (m := O1.length + 1) (c := cap1) (World.ownsRow.drew (ow0.alloc _)) HAP2.out.symm aw)
          have HW1 := Lib.hid ((below_drewN (HBW2.out.alloc (by omega) _) 1).trans (bw.mono (by omega)))
          have hs1 := HB1.out.size
          go_wp2
          refine ⟨⟨k + 1, _, _, by omega, by go_num, Lib.hid (BL1.out.far (a := ⟨NB, 1, none⟩) (by dsimp only; omega) _), Lib.hid (BM1.out.set 1 (by simp) (.slice (some ⟨g1, 0, none⟩) (O1.length + 1) cap1)), ?_, ?_, Lib.hid AP1.out.symm, Lib.hid (HW1.out.setCell (p := ⟨NB, 1, none⟩) (by dsimp only; omega) _), by simp [World.setCell]; omega⟩, by simp [intOf]; omega⟩
          · rw [S0.out, List.length_append, List.map_append]; exact own_setCell OW1.out (a := ⟨NB, 1, none⟩) (Nat.lt_succ_self _) _
          · rw [S1.out, List.length_append, List.map_append]; exact own_setCell HO1.out (a := ⟨NB, 1, none⟩) (Nat.lt_succ_self _) _
    · obtain rfl : k = coef.length := by omega
      have HTV : Hid (vars.take coef.length = vars) := by show _ = _; rw [HL.out, List.take_length]
      rw [List.take_length] at own0
      rw [HTV.out] at own1
      obtain ⟨cm, hcm⟩ : ∃ cm, cm = coef.map (· * kk) := ⟨_, rfl⟩
      rw [← hcm] at own0
      have I4 := Lib.hid (show IsAt wr v0 cm from SlAt.of_own own0)
      have I5 := Lib.hid (show IsAt wr v1 vars from SlAt.of_own own1)
      have HCM := Lib.hid hcm
      have HCL : Hid (cm.length = coef.length) := by show _ = _; rw [hcm, List.length_map]
      have hcl6 : cm.length ≤ 6 := by rw [HCL.out]; exact g3
      clear own0 own1 hcm HAP hbl hbv
      obtain ⟨a4, c4, rfl, _⟩ := I4.out.shape
      obtain ⟨a5, c5, rfl, _⟩ := I5.out.shape
      have HZS : Hid (cm.zip vars = scaleP kk (coef.zip vars)) := by show _ = _; rw [HCM.out]; exact scale_zip kk coef vars
      have CC2 : Hid (∀ W, Below wr.heap.size wr W → Calls Try.prog 9 #[.agg #[.slice a4 cm.length c4, .slice a5 vars.length c5, .int .i64 rel, .int .i64 (C * kk)], .int .i64 ds.length] W fun e w' => e = .returned (.int .i64 (linChk cm vars rel (C * kk) ds.length)) ∧ Below W.heap.size W w') :=
        fun W h => refCheck_any _ _ rel (C * kk) _ cm vars W (I4.out.below h) (I5.out.below h) (by omega) (by omega)
      obtain ⟨l0, _⟩ := HBL.out.get 0 rfl
      obtain ⟨l1, _⟩ := HBL.out.get 1 rfl
      obtain ⟨l2, _⟩ := HBL.out.get 2 rfl
      obtain ⟨l3, _⟩ := HBL.out.get 3 rfl
      obtain ⟨m0, _⟩ := HBM.out.get 0 rfl
      obtain ⟨m1, _⟩ := HBM.out.get 1 rfl
      obtain ⟨m2, _⟩ := HBM.out.get 2 rfl
      obtain ⟨m3, _⟩ := HBM.out.get 3 rfl
      have CC3 := Lib.hid (CC2.out wr (Below.refl _ _))
      by_cases hck2 : linChk cm vars rel (C * kk) ds.length = 0
      case neg =>
        have hne : (linChk cm vars rel (C * kk) ds.length != 0) = true := by simpa using hck2
        clear hck2 CC2
        generalize linChk cm vars rel (C * kk) ds.length = ck at *
        go_wp2_with (go_at_call 9; (with_reducible refine CC3.out.mono ?_); rintro e W5 ⟨rfl, bb⟩; have Q5 := Lib.hid bb; clear bb)
        go_ret
        exact ⟨rfl, HBW.out.trans (Q5.out.mono HBW.out.size)⟩
      case pos =>
        obtain ⟨hg2, hr2, hC3, hnz2, hnd2⟩ := chk_good hck2 HDD.out
        rw [hck2] at CC3
        have hkp : 0 < kk := by omega
        have hdle : ds.length ≤ 4096 := by omega
        have HE1 : Hid (onceL rel (C * kk) ds (cm.zip vars) = onceL rel C ds (coef.zip vars)) := by show _ = _; rw [HZS.out]; exact once_scale rel C kk hkp ds _
        have HE2 : Hid (saysL rel (C * kk) ds (cm.zip vars) = saysL rel C ds (coef.zip vars)) := by show _ = _; rw [HZS.out]; exact says_scale rel C kk hkp ds _
        have CO1 := Lib.hid (fun W (h : Below wr.heap.size wr W) => once_c _ _ _ rel C coef vars ds W (H0.out.below (HBW.out.trans (h.mono HBW.out.size))) (H1.out.below (HBW.out.trans (h.mono HBW.out.size))) (HD.out.below (HBW.out.trans (h.mono HBW.out.size))) HG.out HR.out HCC.out HNZ.out hdle)
        have CR1 := Lib.hid (fun W (h : Below wr.heap.size wr W) => refOnce_c _ _ _ rel C coef vars ds W (H0.out.below (HBW.out.trans (h.mono HBW.out.size))) (H1.out.below (HBW.out.trans (h.mono HBW.out.size))) (HD.out.below (HBW.out.trans (h.mono HBW.out.size))) HG.out HR.out HCC.out HNZ.out hdle HND.out)
        have CO2 := Lib.hid (fun W (h : Below wr.heap.size wr W) => once_c _ _ _ rel (C * kk) cm vars ds W (I4.out.below h) (I5.out.below h) (HD.out.below (HBW.out.trans (h.mono HBW.out.size))) hg2 hr2 hC3 hnz2 hdle)
        have CY1 := Lib.hid (fun W (h : Below wr.heap.size wr W) => says_c _ _ _ rel C coef vars ds W (H0.out.below (HBW.out.trans (h.mono HBW.out.size))) (H1.out.below (HBW.out.trans (h.mono HBW.out.size))) (HD.out.below (HBW.out.trans (h.mono HBW.out.size))) HG.out HR.out)
        have CY2 := Lib.hid (fun W (h : Below wr.heap.size wr W) => says_c _ _ _ rel (C * kk) cm vars ds W (I4.out.below h) (I5.out.below h) (HD.out.below (HBW.out.trans (h.mono HBW.out.size))) hg2 hr2)
        rw [HE1.out] at CO2
        rw [HE2.out] at CY2
        clear hck2 CC2 hg2 hr2 hC3 hnz2 hnd2 HE1 HE2 HZS
        generalize saysL rel C ds (coef.zip vars) = sy at *
        have hsl := HBL.out.lt (by simp)
        have hsm := HBM.out.lt (by simp)
        cases hres : onceL rel C ds (coef.zip vars) with
        | none =>
          rw [hres] at CO1 CO2 CR1
          have CS := Lib.hid (fun W => sameDs_c (.slice none 0 0) (.slice none 0 0) [] [] W DsAt.nil DsAt.nil (by simp) (by simp))
          simp only [decide_true] at CS
          clear hres
          go_wp2_with (first
            | (go_at_call 9; (with_reducible refine CC3.out.mono ?_); rintro e W5 ⟨rfl, bb⟩; have Q5 := Lib.hid bb; obtain ⟨l05, _⟩ := (HBL.out.below Q5.out hsl).get 0 rfl; obtain ⟨l15, _⟩ := (HBL.out.below Q5.out hsl).get 1 rfl; obtain ⟨l25, _⟩ := (HBL.out.below Q5.out hsl).get 2 rfl; obtain ⟨l35, _⟩ := (HBL.out.below Q5.out hsl).get 3 rfl; obtain ⟨m05, _⟩ := (HBM.out.below Q5.out hsm).get 0 rfl; obtain ⟨m15, _⟩ := (HBM.out.below Q5.out hsm).get 1 rfl; obtain ⟨m25, _⟩ := (HBM.out.below Q5.out hsm).get 2 rfl; obtain ⟨m35, _⟩ := (HBM.out.below Q5.out hsm).get 3 rfl; clear bb)
            | (go_at_call 10; (with_reducible refine (CO1.out _ Q5.out).mono ?_); intro e W6 hh; obtain ⟨rfl, bb⟩ := hh.no; have Q6 := Lib.hid (Q5.out.trans (bb.mono Q5.out.size)); obtain ⟨l06, _⟩ := (HBL.out.below Q6.out hsl).get 0 rfl; obtain ⟨l16, _⟩ := (HBL.out.below Q6.out hsl).get 1 rfl; obtain ⟨l26, _⟩ := (HBL.out.below Q6.out hsl).get 2 rfl; obtain ⟨l36, _⟩ := (HBL.out.below Q6.out hsl).get 3 rfl; obtain ⟨m06, _⟩ := (HBM.out.below Q6.out hsm).get 0 rfl; obtain ⟨m16, _⟩ := (HBM.out.below Q6.out hsm).get 1 rfl; obtain ⟨m26, _⟩ := (HBM.out.below Q6.out hsm).get 2 rfl; obtain ⟨m36, _⟩ := (HBM.out.below Q6.out hsm).get 3 rfl; clear bb)
            | (go_at_call 10; (with_reducible refine (CO2.out _ Q6.out).mono ?_); intro e W7 hh; obtain ⟨rfl, bb⟩ := hh.no; have Q7 := Lib.hid (Q6.out.trans (bb.mono Q6.out.size)); obtain ⟨l07, _⟩ := (HBL.out.below Q7.out hsl).get 0 rfl; obtain ⟨l17, _⟩ := (HBL.out.below Q7.out hsl).get 1 rfl; obtain ⟨l27, _⟩ := (HBL.out.below Q7.out hsl).get 2 rfl; obtain ⟨l37, _⟩ := (HBL.out.below Q7.out hsl).get 3 rfl; obtain ⟨m07, _⟩ := (HBM.out.below Q7.out hsm).get 0 rfl; obtain ⟨m17, _⟩ := (HBM.out.below Q7.out hsm).get 1 rfl; obtain ⟨m27, _⟩ := (HBM.out.below Q7.out hsm).get 2 rfl; obtain ⟨m37, _⟩ := (HBM.out.below Q7.out hsm).get 3 rfl; clear bb)
            | (go_at_call 14; (with_reducible refine (CR1.out _ Q7.out).mono ?_); intro e W8 hh; obtain ⟨rfl, bb⟩ := hh.no; have Q8 := Lib.hid (Q7.out.trans (bb.mono Q7.out.size)); clear bb))
          have kl0 := qb_cell ((HBL.out.below Q8.out hsl).get 0 rfl).1
          have kl1 := qb_cell ((HBL.out.below Q8.out hsl).get 1 rfl).1
          have kl2 := qb_cell ((HBL.out.below Q8.out hsl).get 2 rfl).1
          have kl3 := qb_cell ((HBL.out.below Q8.out hsl).get 3 rfl).1
          have km0 := qb_cell ((HBM.out.below Q8.out hsm).get 0 rfl).1
          have km1 := qb_cell ((HBM.out.below Q8.out hsm).get 1 rfl).1
          have km2 := qb_cell ((HBM.out.below Q8.out hsm).get 2 rfl).1
          have km3 := qb_cell ((HBM.out.below Q8.out hsm).get 3 rfl).1
          have G1 : Hid (∀ g : QG W8, _) := fun g => CY1.out g.1 (Q8.out.trans (g.2.mono Q8.out.size))
          have G2 : Hid (∀ g : QG W8, _) := fun g => CY2.out g.1 (Q8.out.trans (g.2.mono Q8.out.size))
          have G3 : Hid (∀ g : QG W8, _) := fun g => CS.out g.1
          clear l05 m05 l15 m15 l25 m25 l35 m35 l06 m06 l16 m16 l26 m26 l36 m36 l07 m07 l17 m17 l27 m27 l37 m37 l0 l1 l2 l3 m0 m1 m2 m3
          refine wp_region_below (by kernel_rfl) (by kernel_rfl) ?_
          repeat (go_big_quiet_step (first | (go_at_call 15; with_reducible exact qb_call _ (G3.out _)) | (go_at_call 16; with_reducible exact qb_call _ (G1.out _)) | (go_at_call 16; with_reducible exact qb_call _ (G2.out _))))
          refine wpQuiet_nil ?_
          intro w1 hw1
          have Q9 := Lib.hid (Q8.out.trans (hw1.below.mono Q8.out.size))
          clear kl0 km0 kl1 km1 kl2 km2 kl3 km3 hw1
          go_wp2
          go_ret
          exact ⟨ret_bool (by simp), HBW.out.trans (Q9.out.mono HBW.out.size)⟩
        | some r =>
          have HRL : Hid (r.length = ds.length) := once_len _ _ _ _ _ hres
          have HRS : Hid (∀ d ∈ r, d.length ≤ 4096) := fun d hd => by
            obtain ⟨j, hj, rfl⟩ := List.getElem_of_mem hd
            exact Nat.le_trans (onceL_len _ _ _ _ r hres j hj) (by omega)
          rw [hres] at CO1 CO2 CR1
          have CS := Lib.hid (fun va vb W (h1 : DsAt W va r) (h2 : DsAt W vb r) => sameDs_c va vb r r W h1 h2 (by rw [HRL.out]; omega) HRS.out)
          simp only [decide_true] at CS
          clear hres
          go_wp2_with (first
            | (go_at_call 9; (with_reducible refine CC3.out.mono ?_); rintro e W5 ⟨rfl, bb⟩; have Q5 := Lib.hid bb; obtain ⟨l05, _⟩ := (HBL.out.below Q5.out hsl).get 0 rfl; obtain ⟨l15, _⟩ := (HBL.out.below Q5.out hsl).get 1 rfl; obtain ⟨l25, _⟩ := (HBL.out.below Q5.out hsl).get 2 rfl; obtain ⟨l35, _⟩ := (HBL.out.below Q5.out hsl).get 3 rfl; obtain ⟨m05, _⟩ := (HBM.out.below Q5.out hsm).get 0 rfl; obtain ⟨m15, _⟩ := (HBM.out.below Q5.out hsm).get 1 rfl; obtain ⟨m25, _⟩ := (HBM.out.below Q5.out hsm).get 2 rfl; obtain ⟨m35, _⟩ := (HBM.out.below Q5.out hsm).get 3 rfl; clear bb)
            | (go_at_call 10; (with_reducible refine (CO1.out _ Q5.out).mono ?_); intro e W6 hh; obtain ⟨a6, c6, rfl, r6, bb⟩ := hh.is; have D6 := Lib.hid r6; have Q6 := Lib.hid (Q5.out.trans (bb.mono Q5.out.size)); obtain ⟨l06, _⟩ := (HBL.out.below Q6.out hsl).get 0 rfl; obtain ⟨l16, _⟩ := (HBL.out.below Q6.out hsl).get 1 rfl; obtain ⟨l26, _⟩ := (HBL.out.below Q6.out hsl).get 2 rfl; obtain ⟨l36, _⟩ := (HBL.out.below Q6.out hsl).get 3 rfl; obtain ⟨m06, _⟩ := (HBM.out.below Q6.out hsm).get 0 rfl; obtain ⟨m16, _⟩ := (HBM.out.below Q6.out hsm).get 1 rfl; obtain ⟨m26, _⟩ := (HBM.out.below Q6.out hsm).get 2 rfl; obtain ⟨m36, _⟩ := (HBM.out.below Q6.out hsm).get 3 rfl; clear bb r6)
            | (go_at_call 10; (with_reducible refine (CO2.out _ Q6.out).mono ?_); intro e W7 hh; obtain ⟨a7, c7, rfl, r7, bb⟩ := hh.is; have D7 := Lib.hid r7; have D67 := Lib.hid (D6.out.below bb); have Q7 := Lib.hid (Q6.out.trans (bb.mono Q6.out.size)); obtain ⟨l07, _⟩ := (HBL.out.below Q7.out hsl).get 0 rfl; obtain ⟨l17, _⟩ := (HBL.out.below Q7.out hsl).get 1 rfl; obtain ⟨l27, _⟩ := (HBL.out.below Q7.out hsl).get 2 rfl; obtain ⟨l37, _⟩ := (HBL.out.below Q7.out hsl).get 3 rfl; obtain ⟨m07, _⟩ := (HBM.out.below Q7.out hsm).get 0 rfl; obtain ⟨m17, _⟩ := (HBM.out.below Q7.out hsm).get 1 rfl; obtain ⟨m27, _⟩ := (HBM.out.below Q7.out hsm).get 2 rfl; obtain ⟨m37, _⟩ := (HBM.out.below Q7.out hsm).get 3 rfl; clear bb r7)
            | (go_at_call 14; (with_reducible refine (CR1.out _ Q7.out).mono ?_); intro e W8 hh; obtain ⟨a8, c8, rfl, r8, bb⟩ := hh.is; have D8 := Lib.hid r8; have D68 := Lib.hid (D67.out.below bb); have D78 := Lib.hid (D7.out.below bb); have Q8 := Lib.hid (Q7.out.trans (bb.mono Q7.out.size)); clear bb r8))
          have kl0 := qb_cell ((HBL.out.below Q8.out hsl).get 0 rfl).1
          have kl1 := qb_cell ((HBL.out.below Q8.out hsl).get 1 rfl).1
          have kl2 := qb_cell ((HBL.out.below Q8.out hsl).get 2 rfl).1
          have kl3 := qb_cell ((HBL.out.below Q8.out hsl).get 3 rfl).1
          have km0 := qb_cell ((HBM.out.below Q8.out hsm).get 0 rfl).1
          have km1 := qb_cell ((HBM.out.below Q8.out hsm).get 1 rfl).1
          have km2 := qb_cell ((HBM.out.below Q8.out hsm).get 2 rfl).1
          have km3 := qb_cell ((HBM.out.below Q8.out hsm).get 3 rfl).1
          have G1 : Hid (∀ g : QG W8, _) := fun g => CY1.out g.1 (Q8.out.trans (g.2.mono Q8.out.size))
          have G2 : Hid (∀ g : QG W8, _) := fun g => CY2.out g.1 (Q8.out.trans (g.2.mono Q8.out.size))
          have G3 : Hid (∀ g : QG W8, _) := fun g => CS.out _ _ g.1 (D68.out.below g.2) (D78.out.below g.2)
          clear l05 m05 l15 m15 l25 m25 l35 m35 l06 m06 l16 m16 l26 m26 l36 m36 l07 m07 l17 m17 l27 m27 l37 m37 l0 l1 l2 l3 m0 m1 m2 m3
          refine wp_region_below (by kernel_rfl) (by kernel_rfl) ?_
          repeat (go_big_quiet_step (first | (go_at_call 15; with_reducible exact qb_call _ (G3.out _)) | (go_at_call 16; with_reducible exact qb_call _ (G1.out _)) | (go_at_call 16; with_reducible exact qb_call _ (G2.out _))))
          refine wpQuiet_nil ?_
          intro w1 hw1
          have Q9 := Lib.hid (Q8.out.trans (hw1.below.mono Q8.out.size))
          clear kl0 km0 kl1 km1 kl2 km2 kl3 km3 hw1
          go_wp2
          go_ret
          exact ⟨ret_bool (by simp), HBW.out.trans (Q9.out.mono HBW.out.size)⟩
theorem linScaled_any (va vb vds : Value) (rel C u : Int) (coef vars : List Int) (ds : Ds) (w : World) (h0 : IsAt w va coef) (h1 : IsAt w vb vars) (hd : DsAt w vds ds) (hu : 0 ≤ u ∧ u ≤ 255) :
    Calls Try.prog 5 #[.agg #[va, vb, .int .i64 rel, .int .i64 C], vds, .int .u8 u] w fun e w' => e = .returned (.bool true) ∧ Below w.heap.size w w' := by
  by_cases hm : manyB coef vars ds = false
  · by_cases hck : linChk coef vars rel C ds.length = 0
    · by_cases h1' : 1048576 < C
      · exact linScaled_bad3 va vb vds rel C u coef vars ds w h0 h1 hd hu hm hck h1'
      · by_cases h2' : C < -1048576
        · exact linScaled_bad4 va vb vds rel C u coef vars ds w h0 h1 hd hu hm hck h2'
        · exact linScaled_main va vb vds rel C u coef vars ds w h0 h1 hd hu hm hck h1' h2'
    · exact linScaled_bad2 va vb vds rel C u coef vars ds w h0 h1 hd hu hm hck
  · exact linScaled_bad1 va vb vds rel C u coef vars ds w h0 h1 hd hu (by simpa using hm)
end Go.Proofs.Ytmmogifmogdegaa
