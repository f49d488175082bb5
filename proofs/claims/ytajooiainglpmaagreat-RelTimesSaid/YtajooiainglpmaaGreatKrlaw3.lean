/-
  RelTimes, walked.
-/
import Derived.Test.YtajooiainglpmaaGreatKrlaw1
import Derived.Test.YtajooiainglpmaaGreatKonce15
import Derived.Test.YtajooiainglpmaaGreatKonce8
import Derived.Test.YtajooiainglpmaaGreatKonce6
import Derived.Test.YtajooiainglpmaaGreatKonce2
import Derived.Test.YtajooiainglpmaaGreatKlin8
namespace Go.Proofs.YtajooiainglpmaaGreat
open Go.RowKit

def timesP : PL := PL.mk 2 0 0 0 1 2 [] [] []
def timesD (a b : List Rg) : Ds := [a, b, [(-200, 200)]]
theorem timesP_all : timesP.all = [0, 1, 2] := by simp [timesP, PL.all, allL]
theorem timesP_fine (a b : List Rg) : timesP.Fine (timesD a b) where
  kind := .inr (.inl rfl)
  lin hk := by simp [timesP] at hk
  vsl hk := by simp [timesP] at hk
  vars v hv := by
    rw [timesP_all] at hv
    simp at hv
    rcases hv with rfl | rfl | rfl <;> simp [timesD]
theorem timesP_lin (a b : List Rg) : timesP.Lin (timesD a b).length := ⟨(timesP_fine a b).good, fun hk => by simp [timesP] at hk⟩
set_option maxRecDepth 100000 in
theorem full_norm : norm [(-200, 200)] = [(-200, 200)] := norm_of_normal ⟨by decide, by decide, by decide, trivial⟩
set_option maxRecDepth 100000 in
/-- each product that is in the domain stays, with its factors -/
theorem times_keeps {a b : List Rg} {v u : Int} (hv : memL (norm a) v = true) (hu : memL (norm b) u = true) (h1 : -200 ≤ v * u) (h2 : v * u ≤ 200) :
    ∃ r0 r1 r2, onceP timesP (timesD a b) = some [r0, r1, r2] ∧ memL r0 v = true ∧ memL r1 u = true ∧ memL r2 (v * u) = true := by
  have hx : Has ((timesD a b).map norm) [v, u, v * u] := by
    refine ⟨by simp [timesD], fun j hj => ?_⟩
    have hj3 : j < 3 := by simpa [timesD] using hj
    rcases (show j = 0 ∨ j = 1 ∨ j = 2 by omega) with rfl | rfl | rfl
    · exact hv
    · exact hu
    · show memL (norm [(-200, 200)]) (v * u) = true
      rw [full_norm]; simp [memL, h1, h2]
  have hh : holdsP timesP [v, u, v * u] = true := by
    unfold holdsP
    rw [if_neg (by simp [timesP]), if_pos (by simp [timesP])]
    simp [timesP, valP]
  obtain ⟨r, hr, hxr⟩ := onceP_keeps (timesP_lin a b) hx hh
  have hl := onceP_len hr
  match r, hl with
  | [r0, r1, r2], _ =>
    exact ⟨r0, r1, r2, hr, hxr.2 0 (by simp), hxr.2 1 (by simp), hxr.2 2 (by simp)⟩
theorem isAt_lit3 (w : World) (a b c : Int) (T : TypeId) : IsAt (w.alloc (.cells #[.int .i64 a, .int .i64 b, .int .i64 c] T)) (.slice (some ⟨w.heap.size, 0, none⟩) 3 3) [a, b, c] :=
  SlAt.of_own (World.ownsRow_lit (base := 0) (e := T) w #[.int .i64 a, .int .i64 b, .int .i64 c] 3 (Nat.zero_le _) (by simp [maxLen]) rfl)
theorem ds_lit3 {w : World} {u0 u1 u2 : Value} {d0 d1 d2 : List Rg} (h0 : RgAt w u0 d0) (h1 : RgAt w u1 d1) (h2 : RgAt w u2 d2) (T : TypeId) : DsAt (w.alloc (.cells #[u0, u1, u2] T)) (.slice (some ⟨w.heap.size, 0, none⟩) 3 3) [d0, d1, d2] := by
  have hb := (Below.refl w.heap.size w).alloc (Nat.le_refl _) (.cells #[u0, u1, u2] T)
  refine ⟨[u0, u1, u2], rfl, SlAt.of_own (World.ownsRow_lit (base := 0) (e := T) w #[u0, u1, u2] 3 (Nat.zero_le _) (by simp [maxLen]) rfl), fun j hj => ?_⟩
  have hj3 : j < 3 := hj
  rcases (show j = 0 ∨ j = 1 ∨ j = 2 by omega) with rfl | rfl | rfl
  · exact ⟨u0, rfl, h0.below hb⟩
  · exact ⟨u1, rfl, h1.below hb⟩
  · exact ⟨u2, rfl, h2.below hb⟩
theorem holds_const (W : World) (T : TypeId) : Calls Tryz.prog 11 #[.agg #[.int .i64 2, .slice none 0 0, .slice none 0 0, .int .i64 0, .int .i64 0, .int .i64 0, .int .i64 1, .int .i64 2, .slice none 0 0], .slice (some ⟨W.heap.size, 0, none⟩) 3 3] (W.alloc (.cells #[.int .i64 2, .int .i64 3, .int .i64 6] T)) fun e w' => e = .returned (.bool true) ∧ Below (W.alloc (.cells #[.int .i64 2, .int .i64 3, .int .i64 6] T)).heap.size (W.alloc (.cells #[.int .i64 2, .int .i64 3, .int .i64 6] T)) w' := by
  have hn : ∀ w : World, IsAt w (.slice none 0 0) [] := fun w => SlAt.nil
  have := relHolds_c 2 (.slice none 0 0) (.slice none 0 0) (.slice none 0 0) _ 0 0 0 1 2 [] [] [] [2, 3, 6] (timesD [] []) _ (hn _) (hn _) (hn _) (isAt_lit3 W 2 3 6 T) (timesP_fine [] []) (by simp) (by simp)
  have e : holdsP (PL.mk 2 0 0 0 1 2 [] [] []) [2, 3, 6] = true := by
    unfold holdsP
    rw [if_neg (by simp), if_pos rfl]
    simp [valP]
  rw [e] at this
  exact this
set_option maxRecDepth 100000 in
set_option maxHeartbeats 6400000 in
theorem relTimes_bad0 (va vb : Value) (x y : Int) (a b : List Rg) (w : World) (ha : RgAt w va a) (hb : RgAt w vb b) (h : 6 < a.length ∨ 6 < b.length) :
    Calls Tryz.prog 3 #[va, vb, .int .u16 x, .int .u16 y] w fun e w' => e = .returned (.bool true) ∧ Below w.heap.size w w' := by
  obtain ⟨a0, c0, rfl, _⟩ := ha.shape
  obtain ⟨a1, c1, rfl, _⟩ := hb.shape
  clear ha hb
  by_cases h1 : 6 < a.length
  · have j1 : (6 : Int) < a.length := by omega
    clear h h1
    go_enter Tryz.func3, Tryz.ntmps3
    go_wp2_with (first
      | (go_at_call 11; (with_reducible refine (holds_const w _).mono ?_); rintro e W9 ⟨rfl, bb⟩; have B9 := Lib.hid (((Below.refl w.heap.size w).alloc ((Below.refl w.heap.size w)).size _).trans (bb.mono (by have := ((Below.refl w.heap.size w)).size; simp; try omega))); clear bb))
    go_ret
    exact ⟨rfl, B9.out⟩
  · have j1 : ¬ (6 : Int) < a.length := by omega
    have j2 : (6 : Int) < b.length := by omega
    clear h h1
    go_enter Tryz.func3, Tryz.ntmps3
    go_wp2_with (first
      | (go_at_call 11; (with_reducible refine (holds_const w _).mono ?_); rintro e W9 ⟨rfl, bb⟩; have B9 := Lib.hid (((Below.refl w.heap.size w).alloc ((Below.refl w.heap.size w)).size _).trans (bb.mono (by have := ((Below.refl w.heap.size w)).size; simp; try omega))); clear bb))
    go_ret
    exact ⟨rfl, B9.out⟩
set_option maxRecDepth 100000 in
set_option maxHeartbeats 6400000 in
theorem relTimes_bad1 (va vb : Value) (x y : Int) (a b : List Rg) (w : World) (ha : RgAt w va a) (hb : RgAt w vb b) (hla : ¬ 6 < a.length) (hlb : ¬ 6 < b.length) (h : 40 < sizeL (norm a)) :
    Calls Tryz.prog 3 #[va, vb, .int .u16 x, .int .u16 y] w fun e w' => e = .returned (.bool true) ∧ Below w.heap.size w w' := by
  obtain ⟨a0, c0, rfl, _⟩ := ha.shape
  obtain ⟨a1, c1, rfl, _⟩ := hb.shape
  have CSa : Hid (∀ W, Below w.heap.size w W → Calls Tryz.prog 10 #[.slice a0 a.length c0] W fun e w' => e = .returned (.int .i64 (sizeL (norm a))) ∧ Below W.heap.size W w') := fun W h => refSize_c _ a W (ha.below h) (by omega)
  have CSb : Hid (∀ W, Below w.heap.size w W → Calls Tryz.prog 10 #[.slice a1 b.length c1] W fun e w' => e = .returned (.int .i64 (sizeL (norm b))) ∧ Below W.heap.size W w') := fun W h => refSize_c _ b W (hb.below h) (by omega)
  have j1 : ¬ (6 : Int) < a.length := by omega
  have j2 : ¬ (6 : Int) < b.length := by omega
  clear ha hb
  generalize sizeL (norm a) = sa at *
  generalize sizeL (norm b) = sb at *
  have j3 : (40 : Int) < sa := by omega
  clear h hla hlb
  go_enter Tryz.func3, Tryz.ntmps3
  go_wp2_with (first
    | (go_at_call 10; (with_reducible refine (CSa.out _ (Below.refl w.heap.size w)).mono ?_); rintro e W1 ⟨rfl, bb⟩; have B1 := Lib.hid ((Below.refl w.heap.size w).trans (bb.mono ((Below.refl w.heap.size w)).size)); clear bb)
    | (go_at_call 11; (with_reducible refine (holds_const W1 _).mono ?_); rintro e W9 ⟨rfl, bb⟩; have B9 := Lib.hid ((B1.out.alloc (B1.out).size _).trans (bb.mono (by have := (B1.out).size; simp; try omega))); clear bb))
  go_ret
  exact ⟨rfl, B9.out⟩
set_option maxRecDepth 100000 in
set_option maxHeartbeats 6400000 in
theorem relTimes_bad2 (va vb : Value) (x y : Int) (a b : List Rg) (w : World) (ha : RgAt w va a) (hb : RgAt w vb b) (hla : ¬ 6 < a.length) (hlb : ¬ 6 < b.length) (h : ¬ 40 < sizeL (norm a) ∧ 40 < sizeL (norm b)) :
    Calls Tryz.prog 3 #[va, vb, .int .u16 x, .int .u16 y] w fun e w' => e = .returned (.bool true) ∧ Below w.heap.size w w' := by
  obtain ⟨a0, c0, rfl, _⟩ := ha.shape
  obtain ⟨a1, c1, rfl, _⟩ := hb.shape
  have CSa : Hid (∀ W, Below w.heap.size w W → Calls Tryz.prog 10 #[.slice a0 a.length c0] W fun e w' => e = .returned (.int .i64 (sizeL (norm a))) ∧ Below W.heap.size W w') := fun W h => refSize_c _ a W (ha.below h) (by omega)
  have CSb : Hid (∀ W, Below w.heap.size w W → Calls Tryz.prog 10 #[.slice a1 b.length c1] W fun e w' => e = .returned (.int .i64 (sizeL (norm b))) ∧ Below W.heap.size W w') := fun W h => refSize_c _ b W (hb.below h) (by omega)
  have j1 : ¬ (6 : Int) < a.length := by omega
  have j2 : ¬ (6 : Int) < b.length := by omega
  clear ha hb
  generalize sizeL (norm a) = sa at *
  generalize sizeL (norm b) = sb at *
  have j3 : ¬ (40 : Int) < sa := by omega
  have j4 : (40 : Int) < sb := by omega
  clear h hla hlb
  go_enter Tryz.func3, Tryz.ntmps3
  go_wp2_with (first
    | (go_at_call 10; (with_reducible refine (CSa.out _ (Below.refl w.heap.size w)).mono ?_); rintro e W1 ⟨rfl, bb⟩; have B1 := Lib.hid ((Below.refl w.heap.size w).trans (bb.mono ((Below.refl w.heap.size w)).size)); clear bb)
    | (go_at_call 10; (with_reducible refine (CSb.out _ B1.out).mono ?_); rintro e W2 ⟨rfl, bb⟩; have B2 := Lib.hid (B1.out.trans (bb.mono (B1.out).size)); clear bb)
    | (go_at_call 11; (with_reducible refine (holds_const W2 _).mono ?_); rintro e W9 ⟨rfl, bb⟩; have B9 := Lib.hid ((B2.out.alloc (B2.out).size _).trans (bb.mono (by have := (B2.out).size; simp; try omega))); clear bb))
  go_ret
  exact ⟨rfl, B9.out⟩
set_option maxRecDepth 100000 in
set_option maxHeartbeats 6400000 in
theorem relTimes_bad3 (va vb : Value) (x y : Int) (a b : List Rg) (w : World) (ha : RgAt w va a) (hb : RgAt w vb b) (hla : ¬ 6 < a.length) (hlb : ¬ 6 < b.length) (h : ¬ 40 < sizeL (norm a) ∧ ¬ 40 < sizeL (norm b) ∧ sizeL (norm a) = 0) :
    Calls Tryz.prog 3 #[va, vb, .int .u16 x, .int .u16 y] w fun e w' => e = .returned (.bool true) ∧ Below w.heap.size w w' := by
  obtain ⟨a0, c0, rfl, _⟩ := ha.shape
  obtain ⟨a1, c1, rfl, _⟩ := hb.shape
  have CSa : Hid (∀ W, Below w.heap.size w W → Calls Tryz.prog 10 #[.slice a0 a.length c0] W fun e w' => e = .returned (.int .i64 (sizeL (norm a))) ∧ Below W.heap.size W w') := fun W h => refSize_c _ a W (ha.below h) (by omega)
  have CSb : Hid (∀ W, Below w.heap.size w W → Calls Tryz.prog 10 #[.slice a1 b.length c1] W fun e w' => e = .returned (.int .i64 (sizeL (norm b))) ∧ Below W.heap.size W w') := fun W h => refSize_c _ b W (hb.below h) (by omega)
  have j1 : ¬ (6 : Int) < a.length := by omega
  have j2 : ¬ (6 : Int) < b.length := by omega
  clear ha hb
  generalize sizeL (norm a) = sa at *
  generalize sizeL (norm b) = sb at *
  have j3 : ¬ (40 : Int) < sa := by omega
  have j4 : ¬ (40 : Int) < sb := by omega
  have j5 : (sa == 0) = true := by simp; omega
  clear h hla hlb
  go_enter Tryz.func3, Tryz.ntmps3
  go_wp2_with (first
    | (go_at_call 10; (with_reducible refine (CSa.out _ (Below.refl w.heap.size w)).mono ?_); rintro e W1 ⟨rfl, bb⟩; have B1 := Lib.hid ((Below.refl w.heap.size w).trans (bb.mono ((Below.refl w.heap.size w)).size)); clear bb)
    | (go_at_call 10; (with_reducible refine (CSb.out _ B1.out).mono ?_); rintro e W2 ⟨rfl, bb⟩; have B2 := Lib.hid (B1.out.trans (bb.mono (B1.out).size)); clear bb)
    | (go_at_call 10; (with_reducible refine (CSa.out _ B2.out).mono ?_); rintro e W3 ⟨rfl, bb⟩; have B3 := Lib.hid (B2.out.trans (bb.mono (B2.out).size)); clear bb)
    | (go_at_call 11; (with_reducible refine (holds_const W3 _).mono ?_); rintro e W9 ⟨rfl, bb⟩; have B9 := Lib.hid ((B3.out.alloc (B3.out).size _).trans (bb.mono (by have := (B3.out).size; simp; try omega))); clear bb))
  go_ret
  exact ⟨rfl, B9.out⟩
set_option maxRecDepth 100000 in
set_option maxHeartbeats 6400000 in
theorem relTimes_bad4 (va vb : Value) (x y : Int) (a b : List Rg) (w : World) (ha : RgAt w va a) (hb : RgAt w vb b) (hla : ¬ 6 < a.length) (hlb : ¬ 6 < b.length) (h : ¬ 40 < sizeL (norm a) ∧ ¬ 40 < sizeL (norm b) ∧ ¬ sizeL (norm a) = 0 ∧ sizeL (norm b) = 0) :
    Calls Tryz.prog 3 #[va, vb, .int .u16 x, .int .u16 y] w fun e w' => e = .returned (.bool true) ∧ Below w.heap.size w w' := by
  obtain ⟨a0, c0, rfl, _⟩ := ha.shape
  obtain ⟨a1, c1, rfl, _⟩ := hb.shape
  have CSa : Hid (∀ W, Below w.heap.size w W → Calls Tryz.prog 10 #[.slice a0 a.length c0] W fun e w' => e = .returned (.int .i64 (sizeL (norm a))) ∧ Below W.heap.size W w') := fun W h => refSize_c _ a W (ha.below h) (by omega)
  have CSb : Hid (∀ W, Below w.heap.size w W → Calls Tryz.prog 10 #[.slice a1 b.length c1] W fun e w' => e = .returned (.int .i64 (sizeL (norm b))) ∧ Below W.heap.size W w') := fun W h => refSize_c _ b W (hb.below h) (by omega)
  have j1 : ¬ (6 : Int) < a.length := by omega
  have j2 : ¬ (6 : Int) < b.length := by omega
  clear ha hb
  generalize sizeL (norm a) = sa at *
  generalize sizeL (norm b) = sb at *
  have j3 : ¬ (40 : Int) < sa := by omega
  have j4 : ¬ (40 : Int) < sb := by omega
  have j5 : (sa == 0) = false := by simp; omega
  have j6 : (sb == 0) = true := by simp; omega
  clear h hla hlb
  go_enter Tryz.func3, Tryz.ntmps3
  go_wp2_with (first
    | (go_at_call 10; (with_reducible refine (CSa.out _ (Below.refl w.heap.size w)).mono ?_); rintro e W1 ⟨rfl, bb⟩; have B1 := Lib.hid ((Below.refl w.heap.size w).trans (bb.mono ((Below.refl w.heap.size w)).size)); clear bb)
    | (go_at_call 10; (with_reducible refine (CSb.out _ B1.out).mono ?_); rintro e W2 ⟨rfl, bb⟩; have B2 := Lib.hid (B1.out.trans (bb.mono (B1.out).size)); clear bb)
    | (go_at_call 10; (with_reducible refine (CSa.out _ B2.out).mono ?_); rintro e W3 ⟨rfl, bb⟩; have B3 := Lib.hid (B2.out.trans (bb.mono (B2.out).size)); clear bb)
    | (go_at_call 10; (with_reducible refine (CSb.out _ B3.out).mono ?_); rintro e W4 ⟨rfl, bb⟩; have B4 := Lib.hid (B3.out.trans (bb.mono (B3.out).size)); clear bb)
    | (go_at_call 11; (with_reducible refine (holds_const W4 _).mono ?_); rintro e W9 ⟨rfl, bb⟩; have B9 := Lib.hid ((B4.out.alloc (B4.out).size _).trans (bb.mono (by have := (B4.out).size; simp; try omega))); clear bb))
  go_ret
  exact ⟨rfl, B9.out⟩
set_option maxRecDepth 100000 in
set_option maxHeartbeats 6400000 in
theorem relTimes_none (va vb : Value) (x y : Int) (a b : List Rg) (w : World) (ha : RgAt w va a) (hb : RgAt w vb b) (hx : 0 ≤ x ∧ x ≤ 65535) (hy : 0 ≤ y ∧ y ≤ 65535) (hla : ¬ 6 < a.length) (hlb : ¬ 6 < b.length) (h1 : ¬ 40 < sizeL (norm a)) (h2 : ¬ 40 < sizeL (norm b)) (h3 : ¬ sizeL (norm a) = 0) (h4 : ¬ sizeL (norm b) = 0) (hres : onceP timesP (timesD a b) = none) :
    Calls Tryz.prog 3 #[va, vb, .int .u16 x, .int .u16 y] w fun e w' => e = .returned (.bool true) ∧ Below w.heap.size w w' := by
  obtain ⟨a0, c0, rfl, _⟩ := ha.shape
  obtain ⟨a1, c1, rfl, _⟩ := hb.shape
  have CSa : Hid (∀ W, Below w.heap.size w W → Calls Tryz.prog 10 #[.slice a0 a.length c0] W fun e w' => e = .returned (.int .i64 (sizeL (norm a))) ∧ Below W.heap.size W w') := fun W h => refSize_c _ a W (ha.below h) (by omega)
  have CSb : Hid (∀ W, Below w.heap.size w W → Calls Tryz.prog 10 #[.slice a1 b.length c1] W fun e w' => e = .returned (.int .i64 (sizeL (norm b))) ∧ Below W.heap.size W w') := fun W h => refSize_c _ b W (hb.below h) (by omega)
  have h5 := size_bnd a
  have h6 := size_bnd b
  have hsa : 0 < sizeL (norm a) := by omega
  have hsb : 0 < sizeL (norm b) := by omega
  have hqa : 0 ≤ x.tmod (sizeL (norm a)) ∧ x.tmod (sizeL (norm a)) < sizeL (norm a) := ⟨Int.tmod_nonneg _ hx.1, Int.tmod_lt_of_pos x (by omega)⟩
  have hqb : 0 ≤ y.tmod (sizeL (norm b)) ∧ y.tmod (sizeL (norm b)) < sizeL (norm b) := ⟨Int.tmod_nonneg _ hy.1, Int.tmod_lt_of_pos y (by omega)⟩
  obtain ⟨v, hv, hv1, hv2, hv3⟩ := placeS_in (memL a) _ hqa.1 hqa.2
  obtain ⟨u, hu, hu1, hu2, hu3⟩ := placeS_in (memL b) _ hqb.1 hqb.2
  have hv4 : memL (norm a) v = true := by rw [memL_norm, hv3]; simp [inD]; omega
  have hu4 : memL (norm b) u = true := by rw [memL_norm, hu3]; simp [inD]; omega
  have CAa : Hid (∀ W, Below w.heap.size w W → Calls Tryz.prog 15 #[.slice a0 a.length c0, .int .i64 (x.tmod (sizeL (norm a)))] W fun e w' => e = .returned (.tuple #[.int .i64 v, .bool true]) ∧ W = w') := fun W h => by
    have ha' := refAt_c _ a (x.tmod (sizeL (norm a))) W (ha.below h) (by omega) (by omega)
    have e : (if x.tmod (sizeL (norm a)) < 0 then none else atL (norm a) (x.tmod (sizeL (norm a)))) = some v := hv
    rw [e] at ha'; exact ha'
  have CAb : Hid (∀ W, Below w.heap.size w W → Calls Tryz.prog 15 #[.slice a1 b.length c1, .int .i64 (y.tmod (sizeL (norm b)))] W fun e w' => e = .returned (.tuple #[.int .i64 u, .bool true]) ∧ W = w') := fun W h => by
    have hb' := refAt_c _ b (y.tmod (sizeL (norm b))) W (hb.below h) (by omega) (by omega)
    have e : (if y.tmod (sizeL (norm b)) < 0 then none else atL (norm b) (y.tmod (sizeL (norm b)))) = some u := hu
    rw [e] at hb'; exact hb'
  have HDS : Hid (∀ (W : World) (T1 T2 : TypeId), Below w.heap.size w W → DsAt ((W.alloc (.cells #[.int .i64 (-200), .int .i64 200] T1)).alloc (.cells #[.slice a0 a.length c0, .slice a1 b.length c1, .slice (some ⟨W.heap.size, 0, none⟩) 1 1] T2)) (.slice (some ⟨(W.alloc (.cells #[.int .i64 (-200), .int .i64 200] T1)).heap.size, 0, none⟩) 3 3) (timesD a b)) := fun W T1 T2 h => by
    have hb1 := h.alloc h.size (.cells #[.int .i64 (-200), .int .i64 200] T1)
    exact ds_lit3 (ha.below hb1) (hb.below hb1) (rgAt_lit2 W (-200, 200) T1) T2
  have hn : ∀ W : World, IsAt W (.slice none 0 0) [] := fun W => SlAt.nil
  have hshort : ∀ d ∈ timesD a b, d.length ≤ 4096 := fun d hd => by simp [timesD] at hd; rcases hd with rfl | rfl | rfl <;> first | omega | decide
  have CO : Hid (∀ W vd, DsAt W vd (timesD a b) → Calls Tryz.prog 12 #[.agg #[.int .i64 2, .slice none 0 0, .slice none 0 0, .int .i64 0, .int .i64 0, .int .i64 0, .int .i64 1, .int .i64 2, .slice none 0 0], vd] W (RetO (onceP timesP (timesD a b)) W)) := fun W vd hd => once_all timesP _ _ _ vd _ W (hn W) (hn W) (hn W) hd (timesP_fine a b) (by simp [timesD]) hshort
  have CR : Hid (∀ W vd, DsAt W vd (timesD a b) → Calls Tryz.prog 13 #[.agg #[.int .i64 2, .slice none 0 0, .slice none 0 0, .int .i64 0, .int .i64 0, .int .i64 0, .int .i64 1, .int .i64 2, .slice none 0 0], vd] W (RetO (onceP timesP (timesD a b)) W)) := fun W vd hd => refOnce_all timesP _ _ _ vd _ W (hn W) (hn W) (hn W) hd (timesP_fine a b) (by simp [timesD]) hshort (by simp [timesP]) (by simp [timesP])
  have HBX : Hid (∀ (W W' : World), Below (W.alloc (.cells #[.int .i64 2, .slice none 0 0, .slice none 0 0, .int .i64 0, .int .i64 0, .int .i64 0, .int .i64 1, .int .i64 2, .slice none 0 0] 30)).heap.size (W.alloc (.cells #[.int .i64 2, .slice none 0 0, .slice none 0 0, .int .i64 0, .int .i64 0, .int .i64 0, .int .i64 1, .int .i64 2, .slice none 0 0] 30)) W' → BoxL W' W.heap.size [.int .i64 2, .slice none 0 0, .slice none 0 0, .int .i64 0, .int .i64 0, .int .i64 0, .int .i64 1, .int .i64 2, .slice none 0 0]) := fun W W' h => BoxL.later (by simp) h
  have hkeep := Lib.hid (times_keeps hv4 hu4)
  have hpb := mul_bnd3 v u ⟨hv1, hv2⟩ ⟨hu1, hu2⟩
  obtain ⟨hp1, hp2⟩ := hpb
  have j1 : ¬ (6 : Int) < a.length := by omega
  have j2 : ¬ (6 : Int) < b.length := by omega
  clear ha hb hv hu hv3 hu3 hv4 hu4 hshort hn hqa hqb h5 h6
  obtain ⟨RES, hRES⟩ : ∃ RES, RES = onceP timesP (timesD a b) := ⟨_, rfl⟩
  rw [← hRES] at CO CR hkeep hres
  clear hRES
  subst hres
  generalize sizeL (norm a) = sa at *
  generalize sizeL (norm b) = sb at *
  have j3 : ¬ (40 : Int) < sa := h1
  have j4 : ¬ (40 : Int) < sb := h2
  have j5 : (sa == 0) = false := by simpa using h3
  have j6 : (sb == 0) = false := by simpa using h4
  clear h1 h2 h3 h4 hla hlb
  generalize hqa : x.tmod sa = qa at *
  generalize hqb : y.tmod sb = qb at *
  obtain ⟨hx1, hx2⟩ := hx
  obtain ⟨hy1, hy2⟩ := hy
  have w1 := wrap_small (x := v * u) (by omega)
  generalize hz : v * u = z at *
  have HLS : Hid (∀ W4, Below w.heap.size w W4 → Below w.heap.size w (((W4.alloc (.cells #[.int .i64 2, .slice none 0 0, .slice none 0 0, .int .i64 0, .int .i64 0, .int .i64 0, .int .i64 1, .int .i64 2, .slice none 0 0] 30)).alloc (.cells #[.int .i64 (-200), .int .i64 200] 32)).alloc (.cells #[.slice a0 a.length c0, .slice a1 b.length c1, .slice (some ⟨W4.heap.size + 1, 0, none⟩) 1 1] 22)) ∧ DsAt (((W4.alloc (.cells #[.int .i64 2, .slice none 0 0, .slice none 0 0, .int .i64 0, .int .i64 0, .int .i64 0, .int .i64 1, .int .i64 2, .slice none 0 0] 30)).alloc (.cells #[.int .i64 (-200), .int .i64 200] 32)).alloc (.cells #[.slice a0 a.length c0, .slice a1 b.length c1, .slice (some ⟨W4.heap.size + 1, 0, none⟩) 1 1] 22)) (.slice (some ⟨W4.heap.size + 1 + 1, 0, none⟩) 3 3) (timesD a b) ∧ ∀ W', Below (((W4.alloc (.cells #[.int .i64 2, .slice none 0 0, .slice none 0 0, .int .i64 0, .int .i64 0, .int .i64 0, .int .i64 1, .int .i64 2, .slice none 0 0] 30)).alloc (.cells #[.int .i64 (-200), .int .i64 200] 32)).alloc (.cells #[.slice a0 a.length c0, .slice a1 b.length c1, .slice (some ⟨W4.heap.size + 1, 0, none⟩) 1 1] 22)).heap.size (((W4.alloc (.cells #[.int .i64 2, .slice none 0 0, .slice none 0 0, .int .i64 0, .int .i64 0, .int .i64 0, .int .i64 1, .int .i64 2, .slice none 0 0] 30)).alloc (.cells #[.int .i64 (-200), .int .i64 200] 32)).alloc (.cells #[.slice a0 a.length c0, .slice a1 b.length c1, .slice (some ⟨W4.heap.size + 1, 0, none⟩) 1 1] 22)) W' → BoxL W' W4.heap.size [.int .i64 2, .slice none 0 0, .slice none 0 0, .int .i64 0, .int .i64 0, .int .i64 0, .int .i64 1, .int .i64 2, .slice none 0 0]) := fun W4 h => by
    have hb0 := h.alloc h.size (.cells #[.int .i64 2, .slice none 0 0, .slice none 0 0, .int .i64 0, .int .i64 0, .int .i64 0, .int .i64 1, .int .i64 2, .slice none 0 0] 30)
    have hb1 := hb0.alloc hb0.size (.cells #[.int .i64 (-200), .int .i64 200] 32)
    refine ⟨hb1.alloc hb1.size _, ?_, fun W' h' => HBX.out W4 W' (Below.trans (((Below.refl _ _).alloc (Nat.le_refl _) _).alloc (by simp) _) (h'.mono (by simp; try omega)))⟩
    have := HDS.out (W4.alloc (.cells #[.int .i64 2, .slice none 0 0, .slice none 0 0, .int .i64 0, .int .i64 0, .int .i64 0, .int .i64 1, .int .i64 2, .slice none 0 0] 30)) 32 22 hb0
    simp only [World.heap_size_alloc'] at this
    exact this
  have hout : z < -200 ∨ 200 < z := by
    rcases (show (z < -200 ∨ 200 < z) ∨ (-200 ≤ z ∧ z ≤ 200) by omega) with h | h
    · exact h
    · obtain ⟨_, _, _, h0, _⟩ := hkeep.out h.1 h.2
      cases h0
  clear hkeep HDS HBX
  by_cases g1 : z < -200
  · clear hout
    go_enter Tryz.func3, Tryz.ntmps3
    go_wp2_with (first
      | (go_at_call 10; (with_reducible refine (CSa.out _ (Below.refl w.heap.size w)).mono ?_); rintro e W1 ⟨rfl, bb⟩; have B1 := Lib.hid ((Below.refl w.heap.size w).trans (bb.mono ((Below.refl w.heap.size w)).size)); clear bb)
      | (go_at_call 10; (with_reducible refine (CSb.out _ B1.out).mono ?_); rintro e W2 ⟨rfl, bb⟩; have B2 := Lib.hid (B1.out.trans (bb.mono (B1.out).size)); clear bb)
      | (go_at_call 10; (with_reducible refine (CSa.out _ B2.out).mono ?_); rintro e W3 ⟨rfl, bb⟩; have B3 := Lib.hid (B2.out.trans (bb.mono (B2.out).size)); clear bb)
      | (go_at_call 10; (with_reducible refine (CSb.out _ B3.out).mono ?_); rintro e W4 ⟨rfl, bb⟩; have B4 := Lib.hid (B3.out.trans (bb.mono (B3.out).size)); clear bb)
      | (go_at_call 12; (with_reducible refine (CO.out _ _ (HLS.out W4 B4.out).2.1).mono ?_); rintro e W5 ⟨bb, hh⟩; obtain ⟨_, _, _, h0, _⟩ | ⟨_, rfl⟩ := hh; (cases h0); have B5 := Lib.hid ((HLS.out W4 B4.out).1.trans (bb.mono (HLS.out W4 B4.out).1.size)); have L5 := Lib.hid ((HLS.out W4 B4.out).2.2 W5 bb); have A5 := Lib.hid ((HLS.out W4 B4.out).2.1.below bb); obtain ⟨l0, _⟩ := L5.out.get 0 rfl; obtain ⟨l1, _⟩ := L5.out.get 1 rfl; obtain ⟨l2, _⟩ := L5.out.get 2 rfl; obtain ⟨l3, _⟩ := L5.out.get 3 rfl; obtain ⟨l4, _⟩ := L5.out.get 4 rfl; obtain ⟨l5, _⟩ := L5.out.get 5 rfl; obtain ⟨l6, _⟩ := L5.out.get 6 rfl; obtain ⟨l7, _⟩ := L5.out.get 7 rfl; obtain ⟨l8, _⟩ := L5.out.get 8 rfl; clear bb)
      | (go_at_call 13; (with_reducible refine (CR.out _ _ A5.out).mono ?_); rintro e W6 ⟨bb, hh⟩; obtain ⟨_, _, _, h0, _⟩ | ⟨_, rfl⟩ := hh; (cases h0); have B6 := Lib.hid (B5.out.trans (bb.mono B5.out.size)); clear bb)
      | (go_at_call 14; (with_reducible refine (sameDs_c (.slice none 0 0) (.slice none 0 0) [] [] W6 DsAt.nil DsAt.nil (by simp) (by simp)).mono ?_); rintro e W7 ⟨rfl, bb⟩; have B7 := Lib.hid (B6.out.trans (bb.mono B6.out.size)); clear bb)
      | (go_at_call 10; (with_reducible refine (CSa.out _ B7.out).mono ?_); rintro e W8 ⟨rfl, bb⟩; have B8 := Lib.hid (B7.out.trans (bb.mono B7.out.size)); clear bb)
      | (go_at_call 15; (with_reducible refine (CAa.out _ B8.out).mono ?_); rintro e w' ⟨rfl, rfl⟩)
      | (go_at_call 10; (with_reducible refine (CSb.out _ B8.out).mono ?_); rintro e W9 ⟨rfl, bb⟩; have B9 := Lib.hid (B8.out.trans (bb.mono B8.out.size)); clear bb)
      | (go_at_call 15; (with_reducible refine (CAb.out _ B9.out).mono ?_); rintro e w' ⟨rfl, rfl⟩))
    go_ret
    exact ⟨rfl, B9.out⟩
  · have g2 : 200 < z := by omega
    clear hout
    go_enter Tryz.func3, Tryz.ntmps3
    go_wp2_with (first
      | (go_at_call 10; (with_reducible refine (CSa.out _ (Below.refl w.heap.size w)).mono ?_); rintro e W1 ⟨rfl, bb⟩; have B1 := Lib.hid ((Below.refl w.heap.size w).trans (bb.mono ((Below.refl w.heap.size w)).size)); clear bb)
      | (go_at_call 10; (with_reducible refine (CSb.out _ B1.out).mono ?_); rintro e W2 ⟨rfl, bb⟩; have B2 := Lib.hid (B1.out.trans (bb.mono (B1.out).size)); clear bb)
      | (go_at_call 10; (with_reducible refine (CSa.out _ B2.out).mono ?_); rintro e W3 ⟨rfl, bb⟩; have B3 := Lib.hid (B2.out.trans (bb.mono (B2.out).size)); clear bb)
      | (go_at_call 10; (with_reducible refine (CSb.out _ B3.out).mono ?_); rintro e W4 ⟨rfl, bb⟩; have B4 := Lib.hid (B3.out.trans (bb.mono (B3.out).size)); clear bb)
      | (go_at_call 12; (with_reducible refine (CO.out _ _ (HLS.out W4 B4.out).2.1).mono ?_); rintro e W5 ⟨bb, hh⟩; obtain ⟨_, _, _, h0, _⟩ | ⟨_, rfl⟩ := hh; (cases h0); have B5 := Lib.hid ((HLS.out W4 B4.out).1.trans (bb.mono (HLS.out W4 B4.out).1.size)); have L5 := Lib.hid ((HLS.out W4 B4.out).2.2 W5 bb); have A5 := Lib.hid ((HLS.out W4 B4.out).2.1.below bb); obtain ⟨l0, _⟩ := L5.out.get 0 rfl; obtain ⟨l1, _⟩ := L5.out.get 1 rfl; obtain ⟨l2, _⟩ := L5.out.get 2 rfl; obtain ⟨l3, _⟩ := L5.out.get 3 rfl; obtain ⟨l4, _⟩ := L5.out.get 4 rfl; obtain ⟨l5, _⟩ := L5.out.get 5 rfl; obtain ⟨l6, _⟩ := L5.out.get 6 rfl; obtain ⟨l7, _⟩ := L5.out.get 7 rfl; obtain ⟨l8, _⟩ := L5.out.get 8 rfl; clear bb)
      | (go_at_call 13; (with_reducible refine (CR.out _ _ A5.out).mono ?_); rintro e W6 ⟨bb, hh⟩; obtain ⟨_, _, _, h0, _⟩ | ⟨_, rfl⟩ := hh; (cases h0); have B6 := Lib.hid (B5.out.trans (bb.mono B5.out.size)); clear bb)
      | (go_at_call 14; (with_reducible refine (sameDs_c (.slice none 0 0) (.slice none 0 0) [] [] W6 DsAt.nil DsAt.nil (by simp) (by simp)).mono ?_); rintro e W7 ⟨rfl, bb⟩; have B7 := Lib.hid (B6.out.trans (bb.mono B6.out.size)); clear bb)
      | (go_at_call 10; (with_reducible refine (CSa.out _ B7.out).mono ?_); rintro e W8 ⟨rfl, bb⟩; have B8 := Lib.hid (B7.out.trans (bb.mono B7.out.size)); clear bb)
      | (go_at_call 15; (with_reducible refine (CAa.out _ B8.out).mono ?_); rintro e w' ⟨rfl, rfl⟩)
      | (go_at_call 10; (with_reducible refine (CSb.out _ B8.out).mono ?_); rintro e W9 ⟨rfl, bb⟩; have B9 := Lib.hid (B8.out.trans (bb.mono B8.out.size)); clear bb)
      | (go_at_call 15; (with_reducible refine (CAb.out _ B9.out).mono ?_); rintro e w' ⟨rfl, rfl⟩))
    go_ret
    exact ⟨rfl, B9.out⟩
set_option maxRecDepth 100000 in
set_option maxHeartbeats 6400000 in
theorem relTimes_some (va vb : Value) (x y : Int) (a b : List Rg) (w : World) (ha : RgAt w va a) (hb : RgAt w vb b) (hx : 0 ≤ x ∧ x ≤ 65535) (hy : 0 ≤ y ∧ y ≤ 65535) (hla : ¬ 6 < a.length) (hlb : ¬ 6 < b.length) (h1 : ¬ 40 < sizeL (norm a)) (h2 : ¬ 40 < sizeL (norm b)) (h3 : ¬ sizeL (norm a) = 0) (h4 : ¬ sizeL (norm b) = 0) (r0 r1 r2 : List Rg) (hres : onceP timesP (timesD a b) = some [r0, r1, r2]) :
    Calls Tryz.prog 3 #[va, vb, .int .u16 x, .int .u16 y] w fun e w' => e = .returned (.bool true) ∧ Below w.heap.size w w' := by
  have hrn := onceP_normal hres
  obtain ⟨a0, c0, rfl, _⟩ := ha.shape
  obtain ⟨a1, c1, rfl, _⟩ := hb.shape
  have CSa : Hid (∀ W, Below w.heap.size w W → Calls Tryz.prog 10 #[.slice a0 a.length c0] W fun e w' => e = .returned (.int .i64 (sizeL (norm a))) ∧ Below W.heap.size W w') := fun W h => refSize_c _ a W (ha.below h) (by omega)
  have CSb : Hid (∀ W, Below w.heap.size w W → Calls Tryz.prog 10 #[.slice a1 b.length c1] W fun e w' => e = .returned (.int .i64 (sizeL (norm b))) ∧ Below W.heap.size W w') := fun W h => refSize_c _ b W (hb.below h) (by omega)
  have h5 := size_bnd a
  have h6 := size_bnd b
  have hsa : 0 < sizeL (norm a) := by omega
  have hsb : 0 < sizeL (norm b) := by omega
  have hqa : 0 ≤ x.tmod (sizeL (norm a)) ∧ x.tmod (sizeL (norm a)) < sizeL (norm a) := ⟨Int.tmod_nonneg _ hx.1, Int.tmod_lt_of_pos x (by omega)⟩
  have hqb : 0 ≤ y.tmod (sizeL (norm b)) ∧ y.tmod (sizeL (norm b)) < sizeL (norm b) := ⟨Int.tmod_nonneg _ hy.1, Int.tmod_lt_of_pos y (by omega)⟩
  obtain ⟨v, hv, hv1, hv2, hv3⟩ := placeS_in (memL a) _ hqa.1 hqa.2
  obtain ⟨u, hu, hu1, hu2, hu3⟩ := placeS_in (memL b) _ hqb.1 hqb.2
  have hv4 : memL (norm a) v = true := by rw [memL_norm, hv3]; simp [inD]; omega
  have hu4 : memL (norm b) u = true := by rw [memL_norm, hu3]; simp [inD]; omega
  have CAa : Hid (∀ W, Below w.heap.size w W → Calls Tryz.prog 15 #[.slice a0 a.length c0, .int .i64 (x.tmod (sizeL (norm a)))] W fun e w' => e = .returned (.tuple #[.int .i64 v, .bool true]) ∧ W = w') := fun W h => by
    have ha' := refAt_c _ a (x.tmod (sizeL (norm a))) W (ha.below h) (by omega) (by omega)
    have e : (if x.tmod (sizeL (norm a)) < 0 then none else atL (norm a) (x.tmod (sizeL (norm a)))) = some v := hv
    rw [e] at ha'; exact ha'
  have CAb : Hid (∀ W, Below w.heap.size w W → Calls Tryz.prog 15 #[.slice a1 b.length c1, .int .i64 (y.tmod (sizeL (norm b)))] W fun e w' => e = .returned (.tuple #[.int .i64 u, .bool true]) ∧ W = w') := fun W h => by
    have hb' := refAt_c _ b (y.tmod (sizeL (norm b))) W (hb.below h) (by omega) (by omega)
    have e : (if y.tmod (sizeL (norm b)) < 0 then none else atL (norm b) (y.tmod (sizeL (norm b)))) = some u := hu
    rw [e] at hb'; exact hb'
  have HDS : Hid (∀ (W : World) (T1 T2 : TypeId), Below w.heap.size w W → DsAt ((W.alloc (.cells #[.int .i64 (-200), .int .i64 200] T1)).alloc (.cells #[.slice a0 a.length c0, .slice a1 b.length c1, .slice (some ⟨W.heap.size, 0, none⟩) 1 1] T2)) (.slice (some ⟨(W.alloc (.cells #[.int .i64 (-200), .int .i64 200] T1)).heap.size, 0, none⟩) 3 3) (timesD a b)) := fun W T1 T2 h => by
    have hb1 := h.alloc h.size (.cells #[.int .i64 (-200), .int .i64 200] T1)
    exact ds_lit3 (ha.below hb1) (hb.below hb1) (rgAt_lit2 W (-200, 200) T1) T2
  have hn : ∀ W : World, IsAt W (.slice none 0 0) [] := fun W => SlAt.nil
  have hshort : ∀ d ∈ timesD a b, d.length ≤ 4096 := fun d hd => by simp [timesD] at hd; rcases hd with rfl | rfl | rfl <;> first | omega | decide
  have CO : Hid (∀ W vd, DsAt W vd (timesD a b) → Calls Tryz.prog 12 #[.agg #[.int .i64 2, .slice none 0 0, .slice none 0 0, .int .i64 0, .int .i64 0, .int .i64 0, .int .i64 1, .int .i64 2, .slice none 0 0], vd] W (RetO (onceP timesP (timesD a b)) W)) := fun W vd hd => once_all timesP _ _ _ vd _ W (hn W) (hn W) (hn W) hd (timesP_fine a b) (by simp [timesD]) hshort
  have CR : Hid (∀ W vd, DsAt W vd (timesD a b) → Calls Tryz.prog 13 #[.agg #[.int .i64 2, .slice none 0 0, .slice none 0 0, .int .i64 0, .int .i64 0, .int .i64 0, .int .i64 1, .int .i64 2, .slice none 0 0], vd] W (RetO (onceP timesP (timesD a b)) W)) := fun W vd hd => refOnce_all timesP _ _ _ vd _ W (hn W) (hn W) (hn W) hd (timesP_fine a b) (by simp [timesD]) hshort (by simp [timesP]) (by simp [timesP])
  have HBX : Hid (∀ (W W' : World), Below (W.alloc (.cells #[.int .i64 2, .slice none 0 0, .slice none 0 0, .int .i64 0, .int .i64 0, .int .i64 0, .int .i64 1, .int .i64 2, .slice none 0 0] 30)).heap.size (W.alloc (.cells #[.int .i64 2, .slice none 0 0, .slice none 0 0, .int .i64 0, .int .i64 0, .int .i64 0, .int .i64 1, .int .i64 2, .slice none 0 0] 30)) W' → BoxL W' W.heap.size [.int .i64 2, .slice none 0 0, .slice none 0 0, .int .i64 0, .int .i64 0, .int .i64 0, .int .i64 1, .int .i64 2, .slice none 0 0]) := fun W W' h => BoxL.later (by simp) h
  have hkeep := Lib.hid (times_keeps hv4 hu4)
  have hpb := mul_bnd3 v u ⟨hv1, hv2⟩ ⟨hu1, hu2⟩
  obtain ⟨hp1, hp2⟩ := hpb
  have j1 : ¬ (6 : Int) < a.length := by omega
  have j2 : ¬ (6 : Int) < b.length := by omega
  clear ha hb hv hu hv3 hu3 hv4 hu4 hshort hn hqa hqb h5 h6
  obtain ⟨RES, hRES⟩ : ∃ RES, RES = onceP timesP (timesD a b) := ⟨_, rfl⟩
  rw [← hRES] at CO CR hkeep hres
  clear hRES
  subst hres
  generalize sizeL (norm a) = sa at *
  generalize sizeL (norm b) = sb at *
  have j3 : ¬ (40 : Int) < sa := h1
  have j4 : ¬ (40 : Int) < sb := h2
  have j5 : (sa == 0) = false := by simpa using h3
  have j6 : (sb == 0) = false := by simpa using h4
  clear h1 h2 h3 h4 hla hlb
  generalize hqa : x.tmod sa = qa at *
  generalize hqb : y.tmod sb = qb at *
  obtain ⟨hx1, hx2⟩ := hx
  obtain ⟨hy1, hy2⟩ := hy
  have w1 := wrap_small (x := v * u) (by omega)
  generalize hz : v * u = z at *
  have HLS : Hid (∀ W4, Below w.heap.size w W4 → Below w.heap.size w (((W4.alloc (.cells #[.int .i64 2, .slice none 0 0, .slice none 0 0, .int .i64 0, .int .i64 0, .int .i64 0, .int .i64 1, .int .i64 2, .slice none 0 0] 30)).alloc (.cells #[.int .i64 (-200), .int .i64 200] 32)).alloc (.cells #[.slice a0 a.length c0, .slice a1 b.length c1, .slice (some ⟨W4.heap.size + 1, 0, none⟩) 1 1] 22)) ∧ DsAt (((W4.alloc (.cells #[.int .i64 2, .slice none 0 0, .slice none 0 0, .int .i64 0, .int .i64 0, .int .i64 0, .int .i64 1, .int .i64 2, .slice none 0 0] 30)).alloc (.cells #[.int .i64 (-200), .int .i64 200] 32)).alloc (.cells #[.slice a0 a.length c0, .slice a1 b.length c1, .slice (some ⟨W4.heap.size + 1, 0, none⟩) 1 1] 22)) (.slice (some ⟨W4.heap.size + 1 + 1, 0, none⟩) 3 3) (timesD a b) ∧ ∀ W', Below (((W4.alloc (.cells #[.int .i64 2, .slice none 0 0, .slice none 0 0, .int .i64 0, .int .i64 0, .int .i64 0, .int .i64 1, .int .i64 2, .slice none 0 0] 30)).alloc (.cells #[.int .i64 (-200), .int .i64 200] 32)).alloc (.cells #[.slice a0 a.length c0, .slice a1 b.length c1, .slice (some ⟨W4.heap.size + 1, 0, none⟩) 1 1] 22)).heap.size (((W4.alloc (.cells #[.int .i64 2, .slice none 0 0, .slice none 0 0, .int .i64 0, .int .i64 0, .int .i64 0, .int .i64 1, .int .i64 2, .slice none 0 0] 30)).alloc (.cells #[.int .i64 (-200), .int .i64 200] 32)).alloc (.cells #[.slice a0 a.length c0, .slice a1 b.length c1, .slice (some ⟨W4.heap.size + 1, 0, none⟩) 1 1] 22)) W' → BoxL W' W4.heap.size [.int .i64 2, .slice none 0 0, .slice none 0 0, .int .i64 0, .int .i64 0, .int .i64 0, .int .i64 1, .int .i64 2, .slice none 0 0]) := fun W4 h => by
    have hb0 := h.alloc h.size (.cells #[.int .i64 2, .slice none 0 0, .slice none 0 0, .int .i64 0, .int .i64 0, .int .i64 0, .int .i64 1, .int .i64 2, .slice none 0 0] 30)
    have hb1 := hb0.alloc hb0.size (.cells #[.int .i64 (-200), .int .i64 200] 32)
    refine ⟨hb1.alloc hb1.size _, ?_, fun W' h' => HBX.out W4 W' (Below.trans (((Below.refl _ _).alloc (Nat.le_refl _) _).alloc (by simp) _) (h'.mono (by simp; try omega)))⟩
    have := HDS.out (W4.alloc (.cells #[.int .i64 2, .slice none 0 0, .slice none 0 0, .int .i64 0, .int .i64 0, .int .i64 0, .int .i64 1, .int .i64 2, .slice none 0 0] 30)) 32 22 hb0
    simp only [World.heap_size_alloc'] at this
    exact this
  have hl0 : r0.length ≤ 4096 := Nat.le_trans (normal_len (hrn 0)) (by decide)
  have hl1 : r1.length ≤ 4096 := Nat.le_trans (normal_len (hrn 1)) (by decide)
  have hl2 : r2.length ≤ 4096 := Nat.le_trans (normal_len (hrn 2)) (by decide)
  have HSH : Hid (∀ d ∈ [r0, r1, r2], d.length ≤ 4096) := fun d hd => by simp at hd; rcases hd with rfl | rfl | rfl <;> assumption
  clear HDS HBX hrn
  by_cases g1 : z < -200
  · clear hkeep hl0 hl1 hl2
    go_enter Tryz.func3, Tryz.ntmps3
    go_wp2_with (first
      | (go_at_call 10; (with_reducible refine (CSa.out _ (Below.refl w.heap.size w)).mono ?_); rintro e W1 ⟨rfl, bb⟩; have B1 := Lib.hid ((Below.refl w.heap.size w).trans (bb.mono ((Below.refl w.heap.size w)).size)); clear bb)
      | (go_at_call 10; (with_reducible refine (CSb.out _ B1.out).mono ?_); rintro e W2 ⟨rfl, bb⟩; have B2 := Lib.hid (B1.out.trans (bb.mono (B1.out).size)); clear bb)
      | (go_at_call 10; (with_reducible refine (CSa.out _ B2.out).mono ?_); rintro e W3 ⟨rfl, bb⟩; have B3 := Lib.hid (B2.out.trans (bb.mono (B2.out).size)); clear bb)
      | (go_at_call 10; (with_reducible refine (CSb.out _ B3.out).mono ?_); rintro e W4 ⟨rfl, bb⟩; have B4 := Lib.hid (B3.out.trans (bb.mono (B3.out).size)); clear bb)
      | (go_at_call 12; (with_reducible refine (CO.out _ _ (HLS.out W4 B4.out).2.1).mono ?_); rintro e W5 hh; obtain ⟨a5, c5, rfl, d5, bb⟩ := hh.is; have D5 : Hid (DsAt W5 (.slice a5 3 c5) [r0, r1, r2]) := d5; have B5 := Lib.hid ((HLS.out W4 B4.out).1.trans (bb.mono (HLS.out W4 B4.out).1.size)); have L5 := Lib.hid ((HLS.out W4 B4.out).2.2 W5 bb); have A5 := Lib.hid ((HLS.out W4 B4.out).2.1.below bb); obtain ⟨l0, _⟩ := L5.out.get 0 rfl; obtain ⟨l1, _⟩ := L5.out.get 1 rfl; obtain ⟨l2, _⟩ := L5.out.get 2 rfl; obtain ⟨l3, _⟩ := L5.out.get 3 rfl; obtain ⟨l4, _⟩ := L5.out.get 4 rfl; obtain ⟨l5, _⟩ := L5.out.get 5 rfl; obtain ⟨l6, _⟩ := L5.out.get 6 rfl; obtain ⟨l7, _⟩ := L5.out.get 7 rfl; obtain ⟨l8, _⟩ := L5.out.get 8 rfl; clear bb d5 hh)
      | (go_at_call 13; (with_reducible refine (CR.out _ _ A5.out).mono ?_); rintro e W6 hh; obtain ⟨a6, c6, rfl, d6, bb⟩ := hh.is; have D6 : Hid (DsAt W6 (.slice a6 3 c6) [r0, r1, r2]) := d6; have D56 := Lib.hid (D5.out.below bb); have B6 := Lib.hid (B5.out.trans (bb.mono B5.out.size)); clear bb d6 hh)
      | (go_at_call 14; (with_reducible refine (sameDs_c _ _ _ _ W6 D56.out D6.out (by simp) HSH.out).mono ?_); rintro e W7 ⟨rfl, bb⟩; have B7 := Lib.hid (B6.out.trans (bb.mono B6.out.size)); have D7 := Lib.hid (D56.out.below bb); clear bb)
      | (go_at_call 10; (with_reducible refine (CSa.out _ B7.out).mono ?_); rintro e W8 ⟨rfl, bb⟩; have B8 := Lib.hid (B7.out.trans (bb.mono B7.out.size)); clear bb)
      | (go_at_call 15; (with_reducible refine (CAa.out _ B8.out).mono ?_); rintro e w' ⟨rfl, rfl⟩)
      | (go_at_call 10; (with_reducible refine (CSb.out _ B8.out).mono ?_); rintro e W9 ⟨rfl, bb⟩; have B9 := Lib.hid (B8.out.trans (bb.mono B8.out.size)); clear bb)
      | (go_at_call 15; (with_reducible refine (CAb.out _ B9.out).mono ?_); rintro e w' ⟨rfl, rfl⟩))
    go_ret
    exact ⟨rfl, B9.out⟩
  by_cases g2 : 200 < z
  · clear hkeep hl0 hl1 hl2
    go_enter Tryz.func3, Tryz.ntmps3
    go_wp2_with (first
      | (go_at_call 10; (with_reducible refine (CSa.out _ (Below.refl w.heap.size w)).mono ?_); rintro e W1 ⟨rfl, bb⟩; have B1 := Lib.hid ((Below.refl w.heap.size w).trans (bb.mono ((Below.refl w.heap.size w)).size)); clear bb)
      | (go_at_call 10; (with_reducible refine (CSb.out _ B1.out).mono ?_); rintro e W2 ⟨rfl, bb⟩; have B2 := Lib.hid (B1.out.trans (bb.mono (B1.out).size)); clear bb)
      | (go_at_call 10; (with_reducible refine (CSa.out _ B2.out).mono ?_); rintro e W3 ⟨rfl, bb⟩; have B3 := Lib.hid (B2.out.trans (bb.mono (B2.out).size)); clear bb)
      | (go_at_call 10; (with_reducible refine (CSb.out _ B3.out).mono ?_); rintro e W4 ⟨rfl, bb⟩; have B4 := Lib.hid (B3.out.trans (bb.mono (B3.out).size)); clear bb)
      | (go_at_call 12; (with_reducible refine (CO.out _ _ (HLS.out W4 B4.out).2.1).mono ?_); rintro e W5 hh; obtain ⟨a5, c5, rfl, d5, bb⟩ := hh.is; have D5 : Hid (DsAt W5 (.slice a5 3 c5) [r0, r1, r2]) := d5; have B5 := Lib.hid ((HLS.out W4 B4.out).1.trans (bb.mono (HLS.out W4 B4.out).1.size)); have L5 := Lib.hid ((HLS.out W4 B4.out).2.2 W5 bb); have A5 := Lib.hid ((HLS.out W4 B4.out).2.1.below bb); obtain ⟨l0, _⟩ := L5.out.get 0 rfl; obtain ⟨l1, _⟩ := L5.out.get 1 rfl; obtain ⟨l2, _⟩ := L5.out.get 2 rfl; obtain ⟨l3, _⟩ := L5.out.get 3 rfl; obtain ⟨l4, _⟩ := L5.out.get 4 rfl; obtain ⟨l5, _⟩ := L5.out.get 5 rfl; obtain ⟨l6, _⟩ := L5.out.get 6 rfl; obtain ⟨l7, _⟩ := L5.out.get 7 rfl; obtain ⟨l8, _⟩ := L5.out.get 8 rfl; clear bb d5 hh)
      | (go_at_call 13; (with_reducible refine (CR.out _ _ A5.out).mono ?_); rintro e W6 hh; obtain ⟨a6, c6, rfl, d6, bb⟩ := hh.is; have D6 : Hid (DsAt W6 (.slice a6 3 c6) [r0, r1, r2]) := d6; have D56 := Lib.hid (D5.out.below bb); have B6 := Lib.hid (B5.out.trans (bb.mono B5.out.size)); clear bb d6 hh)
      | (go_at_call 14; (with_reducible refine (sameDs_c _ _ _ _ W6 D56.out D6.out (by simp) HSH.out).mono ?_); rintro e W7 ⟨rfl, bb⟩; have B7 := Lib.hid (B6.out.trans (bb.mono B6.out.size)); have D7 := Lib.hid (D56.out.below bb); clear bb)
      | (go_at_call 10; (with_reducible refine (CSa.out _ B7.out).mono ?_); rintro e W8 ⟨rfl, bb⟩; have B8 := Lib.hid (B7.out.trans (bb.mono B7.out.size)); clear bb)
      | (go_at_call 15; (with_reducible refine (CAa.out _ B8.out).mono ?_); rintro e w' ⟨rfl, rfl⟩)
      | (go_at_call 10; (with_reducible refine (CSb.out _ B8.out).mono ?_); rintro e W9 ⟨rfl, bb⟩; have B9 := Lib.hid (B8.out.trans (bb.mono B8.out.size)); clear bb)
      | (go_at_call 15; (with_reducible refine (CAb.out _ B9.out).mono ?_); rintro e w' ⟨rfl, rfl⟩))
    go_ret
    exact ⟨rfl, B9.out⟩
  obtain ⟨s0, s1, s2, hs, m0, m1, m2⟩ := hkeep.out (by omega) (by omega)
  simp only [Option.some.injEq, List.cons.injEq, and_true] at hs
  obtain ⟨rfl, rfl, rfl⟩ := hs
  have i0 : (inD v && memL r0 v) = true := by rw [m0]; simp [inD]; omega
  have i1 : (inD u && memL r1 u) = true := by rw [m1]; simp [inD]; omega
  have i2 : (inD z && memL r2 z) = true := by rw [m2]; simp [inD]; omega
  have HX3 : Hid (∀ (W : World) a5 c5, DsAt W (.slice a5 3 c5) [r0, r1, r2] → ∃ b5 o5, a5 = some ⟨b5, o5, none⟩ ∧ 3 ≤ c5 ∧ ∃ p0 q0 p1 q1 p2 q2, W.cell? ⟨b5, o5, none⟩ = some (.slice p0 r0.length q0) ∧ W.cell? ⟨b5, o5 + 1, none⟩ = some (.slice p1 r1.length q1) ∧ W.cell? ⟨b5, o5 + 2, none⟩ = some (.slice p2 r2.length q2) ∧
      Hid (Calls Tryz.prog 16 #[.slice p0 r0.length q0, .int .i64 v] W fun e w' => e = .returned (.bool true) ∧ W = w') ∧ Hid (Calls Tryz.prog 16 #[.slice p1 r1.length q1, .int .i64 u] W fun e w' => e = .returned (.bool true) ∧ W = w') ∧ Hid (Calls Tryz.prog 16 #[.slice p2 r2.length q2, .int .i64 z] W fun e w' => e = .returned (.bool true) ∧ W = w')) := fun W a5 c5 h => by
    obtain ⟨b5, o5, cc, he, hcap, _, hh⟩ := h.cells (by simp)
    simp only [Value.slice.injEq] at he
    obtain ⟨rfl, _, rfl⟩ := he
    obtain ⟨p0, q0, e0, g0⟩ := hh 0 (by simp)
    obtain ⟨p1, q1, e1, g1⟩ := hh 1 (by simp)
    obtain ⟨p2, q2, e2, g2⟩ := hh 2 (by simp)
    have n0 := refHas_c _ r0 v W g0 hl0
    have n1 := refHas_c _ r1 u W g1 hl1
    have n2 := refHas_c _ r2 z W g2 hl2
    rw [i0] at n0
    rw [i1] at n1
    rw [i2] at n2
    exact ⟨b5, o5, rfl, hcap, p0, q0, p1, q1, p2, q2, e0, e1, e2, n0, n1, n2⟩
  clear hkeep m0 m1 m2 i0 i1 i2 hl0 hl1 hl2
  go_enter Tryz.func3, Tryz.ntmps3
  go_wp2_with (first
    | (go_at_call 10; (with_reducible refine (CSa.out _ (Below.refl w.heap.size w)).mono ?_); rintro e W1 ⟨rfl, bb⟩; have B1 := Lib.hid ((Below.refl w.heap.size w).trans (bb.mono ((Below.refl w.heap.size w)).size)); clear bb)
    | (go_at_call 10; (with_reducible refine (CSb.out _ B1.out).mono ?_); rintro e W2 ⟨rfl, bb⟩; have B2 := Lib.hid (B1.out.trans (bb.mono (B1.out).size)); clear bb)
    | (go_at_call 10; (with_reducible refine (CSa.out _ B2.out).mono ?_); rintro e W3 ⟨rfl, bb⟩; have B3 := Lib.hid (B2.out.trans (bb.mono (B2.out).size)); clear bb)
    | (go_at_call 10; (with_reducible refine (CSb.out _ B3.out).mono ?_); rintro e W4 ⟨rfl, bb⟩; have B4 := Lib.hid (B3.out.trans (bb.mono (B3.out).size)); clear bb)
    | (go_at_call 12; (with_reducible refine (CO.out _ _ (HLS.out W4 B4.out).2.1).mono ?_); rintro e W5 hh; obtain ⟨a5, c5, rfl, d5, bb⟩ := hh.is; have D5 : Hid (DsAt W5 (.slice a5 3 c5) [r0, r1, r2]) := d5; have B5 := Lib.hid ((HLS.out W4 B4.out).1.trans (bb.mono (HLS.out W4 B4.out).1.size)); have L5 := Lib.hid ((HLS.out W4 B4.out).2.2 W5 bb); have A5 := Lib.hid ((HLS.out W4 B4.out).2.1.below bb); obtain ⟨l0, _⟩ := L5.out.get 0 rfl; obtain ⟨l1, _⟩ := L5.out.get 1 rfl; obtain ⟨l2, _⟩ := L5.out.get 2 rfl; obtain ⟨l3, _⟩ := L5.out.get 3 rfl; obtain ⟨l4, _⟩ := L5.out.get 4 rfl; obtain ⟨l5, _⟩ := L5.out.get 5 rfl; obtain ⟨l6, _⟩ := L5.out.get 6 rfl; obtain ⟨l7, _⟩ := L5.out.get 7 rfl; obtain ⟨l8, _⟩ := L5.out.get 8 rfl; clear bb d5 hh)
    | (go_at_call 13; (with_reducible refine (CR.out _ _ A5.out).mono ?_); rintro e W6 hh; obtain ⟨a6, c6, rfl, d6, bb⟩ := hh.is; have D6 : Hid (DsAt W6 (.slice a6 3 c6) [r0, r1, r2]) := d6; have D56 := Lib.hid (D5.out.below bb); have B6 := Lib.hid (B5.out.trans (bb.mono B5.out.size)); clear bb d6 hh)
    | (go_at_call 14; (with_reducible refine (sameDs_c _ _ _ _ W6 D56.out D6.out (by simp) HSH.out).mono ?_); rintro e W7 ⟨rfl, bb⟩; have B7 := Lib.hid (B6.out.trans (bb.mono B6.out.size)); have D7 := Lib.hid (D56.out.below bb); clear bb)
    | (go_at_call 10; (with_reducible refine (CSa.out _ B7.out).mono ?_); rintro e W8 ⟨rfl, bb⟩; have B8 := Lib.hid (B7.out.trans (bb.mono B7.out.size)); have D8 := Lib.hid (D7.out.below bb); clear bb)
    | (go_at_call 15; (with_reducible refine (CAa.out _ B8.out).mono ?_); rintro e w' ⟨rfl, rfl⟩)
    | (go_at_call 10; (with_reducible refine (CSb.out _ B8.out).mono ?_); rintro e W9 ⟨rfl, bb⟩; have B9 := Lib.hid (B8.out.trans (bb.mono B8.out.size)); have D9 := Lib.hid (D8.out.below bb); obtain ⟨b5, o5, rfl, hcp5, p0, q0, p1, q1, p2, q2, x0, x1, x2, CH0, CH1, CH2⟩ := HX3.out _ _ _ D9.out; clear bb)
    | (go_at_call 15; (with_reducible refine (CAb.out _ B9.out).mono ?_); rintro e w' ⟨rfl, rfl⟩)
    | (go_at_call 16; (with_reducible refine CH2.out.mono ?_); rintro e w' ⟨rfl, rfl⟩)
    | (go_at_call 16; (with_reducible refine CH0.out.mono ?_); rintro e w' ⟨rfl, rfl⟩)
    | (go_at_call 16; (with_reducible refine CH1.out.mono ?_); rintro e w' ⟨rfl, rfl⟩))
  go_ret
  exact ⟨rfl, B9.out⟩
theorem relTimes_any (va vb : Value) (x y : Int) (a b : List Rg) (w : World) (ha : RgAt w va a) (hb : RgAt w vb b) (hx : 0 ≤ x ∧ x ≤ 65535) (hy : 0 ≤ y ∧ y ≤ 65535) :
    Calls Tryz.prog 3 #[va, vb, .int .u16 x, .int .u16 y] w fun e w' => e = .returned (.bool true) ∧ Below w.heap.size w w' := by
  by_cases hl : 6 < a.length ∨ 6 < b.length
  · exact relTimes_bad0 va vb x y a b w ha hb hl
  have hla : ¬ 6 < a.length := fun h => hl (.inl h)
  have hlb : ¬ 6 < b.length := fun h => hl (.inr h)
  by_cases h1 : 40 < sizeL (norm a)
  · exact relTimes_bad1 va vb x y a b w ha hb hla hlb h1
  by_cases h2 : 40 < sizeL (norm b)
  · exact relTimes_bad2 va vb x y a b w ha hb hla hlb ⟨h1, h2⟩
  by_cases h3 : sizeL (norm a) = 0
  · exact relTimes_bad3 va vb x y a b w ha hb hla hlb ⟨h1, h2, h3⟩
  by_cases h4 : sizeL (norm b) = 0
  · exact relTimes_bad4 va vb x y a b w ha hb hla hlb ⟨h1, h2, h3, h4⟩
  cases hres : onceP timesP (timesD a b) with
  | none => exact relTimes_none va vb x y a b w ha hb hx hy hla hlb h1 h2 h3 h4 hres
  | some r =>
    have hl := onceP_len hres
    match r, hl with
    | [r0, r1, r2], _ => exact relTimes_some va vb x y a b w ha hb hx hy hla hlb h1 h2 h3 h4 r0 r1 r2 hres
end Go.Proofs.YtajooiainglpmaaGreat
