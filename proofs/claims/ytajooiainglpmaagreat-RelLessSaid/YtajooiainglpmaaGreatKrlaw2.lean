/-
  RelLess, walked.
-/
import Derived.Test.YtajooiainglpmaaGreatKrlaw1
import Derived.Test.YtajooiainglpmaaGreatKlin8
import Derived.Test.YtajooiainglpmaaGreatKonce15
import Derived.Test.YtajooiainglpmaaGreatKonce3
import Derived.Test.YtajooiainglpmaaGreatKonce8
import Derived.Handy
import Derived.Deep.RegionHeld3
namespace Go.Proofs.YtajooiainglpmaaGreat
open Go.RowKit

theorem relCheck_4x (w : World) : Calls Tryz.prog 19 #[.agg #[.int .i64 4, .slice none 0 0, .slice none 0 0, .int .i64 3, .int .i64 0, .int .i64 1, .int .i64 0, .int .i64 0, .slice none 0 0], .int .i64 1] w fun e w' => e = .returned (.int .i64 160) ∧ Below w.heap.size w w' := by
  have h : ∀ w : World, IsAt w (.slice none 0 0) [] := fun w => SlAt.nil
  have := check_c 4 (.slice none 0 0) (.slice none 0 0) (.slice none 0 0) 3 0 1 0 0 1 [] [] [] w (h w) (h w) (h w) (by simp) (by simp) (by simp)
  exact this
theorem right16_ok' {kind rel C x y z : Int} {coef vars vs : List Int} {ds : Ds} (h : right16 kind rel C x y z coef vars vs ds = true) :
    many16 coef vars vs ds = false ∧ relChk kind rel C x y z coef vars vs ds.length = 0 := by
  unfold right16 at h
  simpa using h
theorem allN_short {r : Ds} (h : AllN r) (j : Nat) (hj : j < r.length) : r[j].length ≤ 4096 := Nat.le_trans (normal_len (allN_at h hj)) (by decide)
set_option maxRecDepth 100000 in
set_option maxHeartbeats 6400000 in
theorem relLess_bad1 (va vb vv vds vot : Value) (kind rel C x y z : Int) (coef vars vs : List Int) (ds ot : Ds) (w : World) (h0 : IsAt w va coef) (h1 : IsAt w vb vars) (h2 : IsAt w vv vs) (hd : DsAt w vds ds) (ho : DsAt w vot ot) (hm : many16 coef vars vs ot = true) :
    Calls Tryz.prog 4 #[propV kind va vb rel C x y z vv, vds, vot] w fun e w' => e = .returned (.bool true) ∧ Below w.heap.size w w' := by
  have CM2 := Lib.hid (fun W (h : Below w.heap.size w W) => many16_c va vb vv vot kind rel C x y z coef vars vs ot W (h0.below h) (h1.below h) (h2.below h) (ho.below h))
  have CM := Lib.hid (fun W (h : Below w.heap.size w W) => right16_c va vb vv vds kind rel C x y z coef vars vs ds W (h0.below h) (h1.below h) (h2.below h) (hd.below h))
  have CK1 := Lib.hid relCheck_4x
  have H0 := Lib.hid h0
  have H1 := Lib.hid h1
  have H2 := Lib.hid h2
  have HD := Lib.hid hd
  have HO := Lib.hid ho
  obtain ⟨a0, c0, rfl, _⟩ := IsAt.shape h0
  obtain ⟨a1, c1, rfl, _⟩ := IsAt.shape h1
  obtain ⟨a2, c2, rfl, _⟩ := IsAt.shape h2
  obtain ⟨a3, c3, rfl, _⟩ := hd.shape
  obtain ⟨a4, c4, rfl, _⟩ := ho.shape
  have HZ0 : Hid (Below w.heap.size w (w.alloc (.cells #[.int .i64 kind, .slice a0 coef.length c0, .slice a1 vars.length c1, .int .i64 rel, .int .i64 C, .int .i64 x, .int .i64 y, .int .i64 z, .slice a2 vs.length c2] 30))) := (Below.refl _ _).alloc (Nat.le_refl _) _
  have HB0 : Hid (BoxL (w.alloc (.cells #[.int .i64 kind, .slice a0 coef.length c0, .slice a1 vars.length c1, .int .i64 rel, .int .i64 C, .int .i64 x, .int .i64 y, .int .i64 z, .slice a2 vs.length c2] 30)) w.heap.size [.int .i64 kind, .slice a0 coef.length c0, .slice a1 vars.length c1, .int .i64 rel, .int .i64 C, .int .i64 x, .int .i64 y, .int .i64 z, .slice a2 vs.length c2]) := BoxL.mk' _ #[.int .i64 kind, .slice a0 coef.length c0, .slice a1 vars.length c1, .int .i64 rel, .int .i64 C, .int .i64 x, .int .i64 y, .int .i64 z, .slice a2 vs.length c2] _
  clear h0 h1 h2 hd ho
  unfold propV at CM CM2 ⊢
  have CM1 := Lib.hid (CM2.out _ HZ0.out)
  rw [hm] at CM1
  clear hm CM CM2
  go_enter Tryz.func4, Tryz.ntmps4
  go_wp2_with (first
    | (go_at_call 17; (with_reducible refine (CM1.out).mono ?_); rintro e W1 ⟨rfl, bb⟩; have B1 := Lib.hid (HZ0.out.trans (bb.mono HZ0.out.size)); have L1 := Lib.hid (HB0.out.below bb (by simp)); obtain ⟨l0_1, _⟩ := L1.out.get 0 rfl; obtain ⟨l1_1, _⟩ := L1.out.get 1 rfl; obtain ⟨l2_1, _⟩ := L1.out.get 2 rfl; obtain ⟨l3_1, _⟩ := L1.out.get 3 rfl; obtain ⟨l4_1, _⟩ := L1.out.get 4 rfl; obtain ⟨l5_1, _⟩ := L1.out.get 5 rfl; obtain ⟨l6_1, _⟩ := L1.out.get 6 rfl; obtain ⟨l7_1, _⟩ := L1.out.get 7 rfl; obtain ⟨l8_1, _⟩ := L1.out.get 8 rfl; clear bb)
    | (go_at_call 19; (with_reducible refine (CK1.out _).mono ?_); rintro e W9 ⟨rfl, bb⟩; have B9 := Lib.hid (B1.out.trans (bb.mono B1.out.size)); clear bb))
  go_ret
  exact ⟨rfl, B9.out⟩
set_option maxRecDepth 100000 in
set_option maxHeartbeats 6400000 in
theorem relLess_bad2 (va vb vv vds vot : Value) (kind rel C x y z : Int) (coef vars vs : List Int) (ds ot : Ds) (w : World) (h0 : IsAt w va coef) (h1 : IsAt w vb vars) (h2 : IsAt w vv vs) (hd : DsAt w vds ds) (ho : DsAt w vot ot) (hm : many16 coef vars vs ot = false) (hm2 : right16 kind rel C x y z coef vars vs ds = false) :
    Calls Tryz.prog 4 #[propV kind va vb rel C x y z vv, vds, vot] w fun e w' => e = .returned (.bool true) ∧ Below w.heap.size w w' := by
  have CM2 := Lib.hid (fun W (h : Below w.heap.size w W) => many16_c va vb vv vot kind rel C x y z coef vars vs ot W (h0.below h) (h1.below h) (h2.below h) (ho.below h))
  have CM := Lib.hid (fun W (h : Below w.heap.size w W) => right16_c va vb vv vds kind rel C x y z coef vars vs ds W (h0.below h) (h1.below h) (h2.below h) (hd.below h))
  have CK1 := Lib.hid relCheck_4x
  have H0 := Lib.hid h0
  have H1 := Lib.hid h1
  have H2 := Lib.hid h2
  have HD := Lib.hid hd
  have HO := Lib.hid ho
  obtain ⟨a0, c0, rfl, _⟩ := IsAt.shape h0
  obtain ⟨a1, c1, rfl, _⟩ := IsAt.shape h1
  obtain ⟨a2, c2, rfl, _⟩ := IsAt.shape h2
  obtain ⟨a3, c3, rfl, _⟩ := hd.shape
  obtain ⟨a4, c4, rfl, _⟩ := ho.shape
  have HZ0 : Hid (Below w.heap.size w (w.alloc (.cells #[.int .i64 kind, .slice a0 coef.length c0, .slice a1 vars.length c1, .int .i64 rel, .int .i64 C, .int .i64 x, .int .i64 y, .int .i64 z, .slice a2 vs.length c2] 30))) := (Below.refl _ _).alloc (Nat.le_refl _) _
  have HB0 : Hid (BoxL (w.alloc (.cells #[.int .i64 kind, .slice a0 coef.length c0, .slice a1 vars.length c1, .int .i64 rel, .int .i64 C, .int .i64 x, .int .i64 y, .int .i64 z, .slice a2 vs.length c2] 30)) w.heap.size [.int .i64 kind, .slice a0 coef.length c0, .slice a1 vars.length c1, .int .i64 rel, .int .i64 C, .int .i64 x, .int .i64 y, .int .i64 z, .slice a2 vs.length c2]) := BoxL.mk' _ #[.int .i64 kind, .slice a0 coef.length c0, .slice a1 vars.length c1, .int .i64 rel, .int .i64 C, .int .i64 x, .int .i64 y, .int .i64 z, .slice a2 vs.length c2] _
  clear h0 h1 h2 hd ho
  unfold propV at CM CM2 ⊢
  have CM1 := Lib.hid (CM2.out _ HZ0.out)
  rw [hm] at CM1
  have CM3 := Lib.hid CM.out
  rw [hm2] at CM3
  clear hm hm2 CM CM2
  go_enter Tryz.func4, Tryz.ntmps4
  go_wp2_with (first
    | (go_at_call 17; (with_reducible refine (CM1.out).mono ?_); rintro e W1 ⟨rfl, bb⟩; have B1 := Lib.hid (HZ0.out.trans (bb.mono HZ0.out.size)); have L1 := Lib.hid (HB0.out.below bb (by simp)); obtain ⟨l0_1, _⟩ := L1.out.get 0 rfl; obtain ⟨l1_1, _⟩ := L1.out.get 1 rfl; obtain ⟨l2_1, _⟩ := L1.out.get 2 rfl; obtain ⟨l3_1, _⟩ := L1.out.get 3 rfl; obtain ⟨l4_1, _⟩ := L1.out.get 4 rfl; obtain ⟨l5_1, _⟩ := L1.out.get 5 rfl; obtain ⟨l6_1, _⟩ := L1.out.get 6 rfl; obtain ⟨l7_1, _⟩ := L1.out.get 7 rfl; obtain ⟨l8_1, _⟩ := L1.out.get 8 rfl; clear bb)
    | (go_at_call 18; (with_reducible refine (CM3.out _ B1.out).mono ?_); rintro e W2 ⟨rfl, bb⟩; have B2 := Lib.hid (B1.out.trans (bb.mono B1.out.size)); have L2 := Lib.hid (L1.out.below bb (by have := L1.out.lt (by simp); omega)); obtain ⟨l0_2, _⟩ := L2.out.get 0 rfl; obtain ⟨l1_2, _⟩ := L2.out.get 1 rfl; obtain ⟨l2_2, _⟩ := L2.out.get 2 rfl; obtain ⟨l3_2, _⟩ := L2.out.get 3 rfl; obtain ⟨l4_2, _⟩ := L2.out.get 4 rfl; obtain ⟨l5_2, _⟩ := L2.out.get 5 rfl; obtain ⟨l6_2, _⟩ := L2.out.get 6 rfl; obtain ⟨l7_2, _⟩ := L2.out.get 7 rfl; obtain ⟨l8_2, _⟩ := L2.out.get 8 rfl; clear bb)
    | (go_at_call 19; (with_reducible refine (CK1.out _).mono ?_); rintro e W9 ⟨rfl, bb⟩; have B9 := Lib.hid (B2.out.trans (bb.mono B2.out.size)); clear bb))
  go_ret
  exact ⟨rfl, B9.out⟩
set_option maxRecDepth 100000 in
set_option maxHeartbeats 6400000 in
theorem relLess_none1 (va vb vv vds vot : Value) (kind rel C x y z : Int) (coef vars vs : List Int) (ds ot : Ds) (w : World) (h0 : IsAt w va coef) (h1 : IsAt w vb vars) (h2 : IsAt w vv vs) (hd : DsAt w vds ds) (ho : DsAt w vot ot) (hm : many16 coef vars vs ot = false) (hr : right16 kind rel C x y z coef vars vs ds = true) (r1 : Ds) (hres1 : onceP (PL.mk kind rel C x y z coef vars vs) ds = some r1) (hrl1 : r1.length = ds.length) (hres : onceP (PL.mk kind rel C x y z coef vars vs) (smallD ds ot ds.length) = none) :
    Calls Tryz.prog 4 #[propV kind va vb rel C x y z vv, vds, vot] w fun e w' => e = .returned (.bool true) ∧ Below w.heap.size w w' := by
  obtain ⟨i0, hi, hz0, hz1, hz2⟩ := info_parts Tryz.infoRgs
  have CM2 := Lib.hid (fun W (h : Below w.heap.size w W) => many16_c va vb vv vot kind rel C x y z coef vars vs ot W (h0.below h) (h1.below h) (h2.below h) (ho.below h))
  have CM := Lib.hid (fun W (h : Below w.heap.size w W) => right16_c va vb vv vds kind rel C x y z coef vars vs ds W (h0.below h) (h1.below h) (h2.below h) (hd.below h))
  have CK1 := Lib.hid relCheck_4x
  have H0 := Lib.hid h0
  have H1 := Lib.hid h1
  have H2 := Lib.hid h2
  have HD := Lib.hid hd
  have HO := Lib.hid ho
  obtain ⟨a0, c0, rfl, _⟩ := IsAt.shape h0
  obtain ⟨a1, c1, rfl, _⟩ := IsAt.shape h1
  obtain ⟨a2, c2, rfl, _⟩ := IsAt.shape h2
  obtain ⟨a3, c3, rfl, _⟩ := hd.shape
  obtain ⟨a4, c4, rfl, _⟩ := ho.shape
  have HZ0 : Hid (Below w.heap.size w (w.alloc (.cells #[.int .i64 kind, .slice a0 coef.length c0, .slice a1 vars.length c1, .int .i64 rel, .int .i64 C, .int .i64 x, .int .i64 y, .int .i64 z, .slice a2 vs.length c2] 30))) := (Below.refl _ _).alloc (Nat.le_refl _) _
  have HB0 : Hid (BoxL (w.alloc (.cells #[.int .i64 kind, .slice a0 coef.length c0, .slice a1 vars.length c1, .int .i64 rel, .int .i64 C, .int .i64 x, .int .i64 y, .int .i64 z, .slice a2 vs.length c2] 30)) w.heap.size [.int .i64 kind, .slice a0 coef.length c0, .slice a1 vars.length c1, .int .i64 rel, .int .i64 C, .int .i64 x, .int .i64 y, .int .i64 z, .slice a2 vs.length c2]) := BoxL.mk' _ #[.int .i64 kind, .slice a0 coef.length c0, .slice a1 vars.length c1, .int .i64 rel, .int .i64 C, .int .i64 x, .int .i64 y, .int .i64 z, .slice a2 vs.length c2] _
  clear h0 h1 h2 hd ho
  unfold propV at CM CM2 ⊢
  obtain ⟨hmd, hck⟩ := right16_ok' hr
  obtain ⟨g1, g2, g3, g5, g4⟩ := many16_ok hmd
  have HOT := Lib.hid (many16_ok hm).2.2.2.2
  have hol := (many16_ok hm).1
  have CM1 := Lib.hid (CM2.out _ HZ0.out)
  rw [hm] at CM1
  have CM3 := Lib.hid CM.out
  rw [hr] at CM3
  have g6 : ∀ d ∈ ds, d.length ≤ 4096 := fun d hd => by have := g4 d hd; omega
  have hf := chk_fine (PL.mk kind rel C x y z coef vars vs) ds hck g6
  have g7 : ∀ d ∈ smallD ds ot ds.length, d.length ≤ 4096 := fun d hd => by have := small_short ds ot (fun d hd => by have := g4 d hd; omega) ds.length d hd; omega
  have hf2 := chk_fine (PL.mk kind rel C x y z coef vars vs) (smallD ds ot ds.length) (by rw [smallD_len]; exact hck) g7
  have HDS := Lib.hid g4
  have CO := Lib.hid (fun W (h : Below w.heap.size w W) => once_all (PL.mk kind rel C x y z coef vars vs) _ _ _ _ ds W (H0.out.below h) (H1.out.below h) (H2.out.below h) (HD.out.below h) hf (by omega) g6)
  have CO2 := Lib.hid (fun vt W (h : Below w.heap.size w W) (hs : DsAt W vt (smallD ds ot ds.length)) => once_all (PL.mk kind rel C x y z coef vars vs) _ _ _ vt _ W (H0.out.below h) (H1.out.below h) (H2.out.below h) hs hf2 (by rw [smallD_len]; omega) g7)
  have CR2 := Lib.hid (fun vt W (h : Below w.heap.size w W) (hs : DsAt W vt (smallD ds ot ds.length)) => refOnce_all (PL.mk kind rel C x y z coef vars vs) _ _ _ vt _ W (H0.out.below h) (H1.out.below h) (H2.out.below h) hs hf2 (by rw [smallD_len]; omega) g7 (by dsimp only; omega) (by dsimp only; omega))
  clear hm hr hck hmd CM CM2 hf hf2 g4 g5 g6 g7 g2 g3
  dsimp only at CO CO2 CR2
  unfold propV at CO CO2 CR2
  obtain ⟨ONE, hONE⟩ : ∃ ONE, ONE = onceP (PL.mk kind rel C x y z coef vars vs) ds := ⟨_, rfl⟩
  obtain ⟨TWO, hTWO⟩ : ∃ TWO, TWO = onceP (PL.mk kind rel C x y z coef vars vs) (smallD ds ot ds.length) := ⟨_, rfl⟩
  rw [← hONE] at CO hres1
  rw [← hTWO] at CO2 CR2 hres
  clear hONE hTWO
  have HRL1 : Hid (r1.length = ds.length) := hrl1
  have CO1 : Hid (∀ W, Below w.heap.size w W → Calls Tryz.prog 12 #[.agg #[.int .i64 kind, .slice a0 coef.length c0, .slice a1 vars.length c1, .int .i64 rel, .int .i64 C, .int .i64 x, .int .i64 y, .int .i64 z, .slice a2 vs.length c2], .slice a3 ds.length c3] W fun e w' => ∃ ao cap, e = .returned (.tuple #[.slice ao ds.length cap, .bool true]) ∧ DsAt w' (.slice ao ds.length cap) r1 ∧ Below W.heap.size W w') := fun W h => by
    have := CO.out W h
    rw [hres1] at this
    exact this.mono fun _ _ h => by
      have h2 := h.is
      rw [HRL1.out] at h2
      exact h2
  have CO3 : Hid (∀ vt W, Below w.heap.size w W → DsAt W vt (smallD ds ot ds.length) → Calls Tryz.prog 12 #[.agg #[.int .i64 kind, .slice a0 coef.length c0, .slice a1 vars.length c1, .int .i64 rel, .int .i64 C, .int .i64 x, .int .i64 y, .int .i64 z, .slice a2 vs.length c2], vt] W fun e w' => e = .returned (.tuple #[.slice none 0 0, .bool false]) ∧ Below W.heap.size W w') := fun vt W h hs => by
    have := CO2.out vt W h hs
    rw [hres] at this
    exact this.mono fun _ _ h => h.no
  have CR3 : Hid (∀ vt W, Below w.heap.size w W → DsAt W vt (smallD ds ot ds.length) → Calls Tryz.prog 13 #[.agg #[.int .i64 kind, .slice a0 coef.length c0, .slice a1 vars.length c1, .int .i64 rel, .int .i64 C, .int .i64 x, .int .i64 y, .int .i64 z, .slice a2 vs.length c2], vt] W fun e w' => e = .returned (.tuple #[.slice none 0 0, .bool false]) ∧ Below W.heap.size W w') := fun vt W h hs => by
    have := CR2.out vt W h hs
    rw [hres] at this
    exact this.mono fun _ _ h => h.no
  clear CO CO2 CR2 hres hres1 CK1 hrl1
  go_enter Tryz.func4, Tryz.ntmps4
  go_wp2_with (first
    | (go_at_call 17; (with_reducible refine (CM1.out).mono ?_); rintro e W1 ⟨rfl, bb⟩; have B1 := Lib.hid (HZ0.out.trans (bb.mono HZ0.out.size)); have L1 := Lib.hid (HB0.out.below bb (by simp)); obtain ⟨l0_1, _⟩ := L1.out.get 0 rfl; obtain ⟨l1_1, _⟩ := L1.out.get 1 rfl; obtain ⟨l2_1, _⟩ := L1.out.get 2 rfl; obtain ⟨l3_1, _⟩ := L1.out.get 3 rfl; obtain ⟨l4_1, _⟩ := L1.out.get 4 rfl; obtain ⟨l5_1, _⟩ := L1.out.get 5 rfl; obtain ⟨l6_1, _⟩ := L1.out.get 6 rfl; obtain ⟨l7_1, _⟩ := L1.out.get 7 rfl; obtain ⟨l8_1, _⟩ := L1.out.get 8 rfl; clear bb)
    | (go_at_call 18; (with_reducible refine (CM3.out _ B1.out).mono ?_); rintro e W2 ⟨rfl, bb⟩; have B2 := Lib.hid (B1.out.trans (bb.mono B1.out.size)); have L2 := Lib.hid (L1.out.below bb (by have := L1.out.lt (by simp); omega)); obtain ⟨l0_2, _⟩ := L2.out.get 0 rfl; obtain ⟨l1_2, _⟩ := L2.out.get 1 rfl; obtain ⟨l2_2, _⟩ := L2.out.get 2 rfl; obtain ⟨l3_2, _⟩ := L2.out.get 3 rfl; obtain ⟨l4_2, _⟩ := L2.out.get 4 rfl; obtain ⟨l5_2, _⟩ := L2.out.get 5 rfl; obtain ⟨l6_2, _⟩ := L2.out.get 6 rfl; obtain ⟨l7_2, _⟩ := L2.out.get 7 rfl; obtain ⟨l8_2, _⟩ := L2.out.get 8 rfl; clear bb))
  have hs3 := B2.out.size
  have hl3 := L2.out.lt (by simp)
  clear l0_1 l0_2 l1_1 l1_2 l2_1 l2_2 l3_1 l3_2 l4_1 l4_2 l5_1 l5_2 l6_1 l6_2 l7_1 l7_2 l8_1 l8_2 L1 B1 CM1 CM3 HZ0 HB0
  go_loopw [7, 8] (fun o s wr => ∃ k : Nat, ∃ us : List Value, k ≤ ds.length ∧ s = .int .i64 k ∧ Hid (DsApp wr W2.heap.size o (smallD ds ot k) us) ∧ Hid (Below W2.heap.size W2 wr)) (fun _ s _ => ds.length - (intOf s).toNat)
  case atStart => exact ⟨0, [], by omega, rfl, Lib.hid (DsApp.nil (World.ownsRow_made W2 #[] 0 (Nat.le_refl _) (by decide) rfl)), Lib.hid ((Below.refl _ _).alloc (Nat.le_refl _) _)⟩
  case round =>
    obtain ⟨k, us, hk, rfl, HA, HB⟩ := hrel
    have hle := HB.out.size
    by_cases hlt : k < ds.length
    · obtain ⟨b, off, ao, cap, rfl, q1, q2, hj0, hc, hrg⟩ := HD.out.get k hlt
      clear hj0
      have j1 : (k : Int) < ds.length := by omega
      have hBw : Hid (Below w.heap.size w wr) := B2.out.trans (HB.out.mono hs3)
      rw [← hBw.out.cell (p := ⟨b, off + k, none⟩) q2] at hc
      have hdl : ds[k].length ≤ 8 := HDS.out _ (List.getElem_mem hlt)
      have HST := Lib.hid (smallD_step ds ot k)
      have HSL := Lib.hid (smallD_len ds ot k)
      have hgd := getD_at ds k hlt []
      have HRG := Lib.hid hrg
      have HSA : Hid (smallAt ds ot k = if k < ot.length then meetL ds[k] (ot.getD k []) else ds[k]) := by show _ = _; unfold smallAt; rw [hgd]
      clear hrg hgd
      obtain ⟨oa, oc, rfl, _⟩ := HA.out.own.at.shape
      generalize smallAt ds ot k = SA at *
      generalize ds[k] = d at *
      by_cases hot : k < ot.length
      · obtain ⟨b4, o4, a4', c4', rfl, q3, q4, hj4, hc4, hr4⟩ := HO.out.get k hot
        clear hj4
        have j2 : (k : Int) < ot.length := by omega
        have hgo := getD_at ot k hot []
        have hel : ot[k].length ≤ 8 := HOT.out _ (List.getElem_mem hot)
        rw [hgo, if_pos hot] at HSA
        rw [← hBw.out.cell (p := ⟨b4, o4 + k, none⟩) q4] at hc4
        have CME := Lib.hid (refMeet_n _ _ d ot[k] wr (HRG.out.below hBw.out) (hr4.below hBw.out) (by omega) (by omega))
        rw [← HSA.out] at CME
        clear hr4 hgo
        generalize ot[k] = f at *
        rw [HSL.out]
        go_wp2_with (first
          | (go_at_call 20; (with_reducible refine CME.out.mono ?_); rintro e W5 ⟨a5, c5, rfl, r5, b5, n5⟩; have HA5 := Lib.hid (HA.out.below b5); have HAP := Lib.hid (apart_made HA.out.2.1 n5); have R5 := Lib.hid r5; have Q5 := Lib.hid (HB.out.trans (b5.mono hle)); have hs5 := b5.size; clear b5 r5 n5)
          | (at_builtin; refine wpList_append1L rfl (.tmp 51) (.tmp 53) 33 rfl W2.heap.size 22 i0 (.slice none 0 0) 24 Tryz.underlying33 hi hz0 hz1 hz2 rfl _ _ _ rfl (by have := HA5.out.2.1; rw [HSL.out] at this; exact this) _ rfl rfl (by omega) (by omega) ?_; intro g5 cap5 w5 ow bw kw gw))
        refine ⟨⟨k + 1, us ++ [.slice a5 SA.length c5], by omega, by go_num, ?_, Lib.hid (Q5.out.trans bw)⟩, by simp [intOf]; omega⟩
        have := DsApp.push (ds := smallD ds ot k) (g := g5) (cap := cap5) HA5.out R5.out (fun _ => by have := HAP.out; rw [HSL.out] at this ⊢; exact this) (by rw [HSL.out]; exact ow) (by rw [HSL.out]; exact kw) (by rw [HSL.out]; exact gw)
        rw [HSL.out, ← HST.out] at this
        exact Lib.hid this
      · have hotd : ¬ (k : Int) < ot.length := by omega
        rw [if_neg hot] at HSA
        have R5 := Lib.hid (HRG.out.below hBw.out)
        have HAP : Hid (d ≠ [] → Apart (.slice ao d.length cap) (.slice oa (smallD ds ot k).length oc)) := fun hne => apart_low HA.out.2.1 (fun b hb => by have := HRG.out.blk hne b hb; have := B2.out.size; omega)
        obtain rfl : SA = d := HSA.out
        rw [HSL.out]
        go_wp2_with (at_builtin; refine wpList_append1L rfl (.tmp 51) (.tmp 53) 33 rfl W2.heap.size 22 i0 (.slice none 0 0) 24 Tryz.underlying33 hi hz0 hz1 hz2 rfl _ _ _ rfl (by have := HA.out.2.1; rw [HSL.out] at this; exact this) _ rfl rfl (by omega) (by omega) ?_; intro g5 cap5 w5 ow bw kw gw)
        refine ⟨⟨k + 1, us ++ [.slice ao SA.length cap], by omega, by go_num, ?_, Lib.hid (HB.out.trans bw)⟩, by simp [intOf]; omega⟩
        have := DsApp.push (ds := smallD ds ot k) (g := g5) (cap := cap5) HA.out R5.out HAP.out (by rw [HSL.out]; exact ow) (by rw [HSL.out]; exact kw) (by rw [HSL.out]; exact gw)
        rw [HSL.out, ← HST.out] at this
        exact Lib.hid this
    · obtain rfl : k = ds.length := by omega
      have hSL := smallD_len ds ot ds.length
      have HSL := Lib.hid hSL
      have HAT := Lib.hid HA.out.own.at
      obtain ⟨oa, oc, rfl, _⟩ := HAT.out.shape
      have B4 := Lib.hid (B2.out.trans (HB.out.mono hs3))
      have L4 := Lib.hid (L2.out.below HB.out hl3)
      obtain ⟨l0_4, _⟩ := L4.out.get 0 rfl
      obtain ⟨l1_4, _⟩ := L4.out.get 1 rfl
      obtain ⟨l2_4, _⟩ := L4.out.get 2 rfl
      obtain ⟨l3_4, _⟩ := L4.out.get 3 rfl
      obtain ⟨l4_4, _⟩ := L4.out.get 4 rfl
      obtain ⟨l5_4, _⟩ := L4.out.get 5 rfl
      obtain ⟨l6_4, _⟩ := L4.out.get 6 rfl
      obtain ⟨l7_4, _⟩ := L4.out.get 7 rfl
      obtain ⟨l8_4, _⟩ := L4.out.get 8 rfl
      have hl4 := L4.out.lt (by simp)
      clear HA hSL
      go_wp2_with (first
        | (go_at_call 12; (with_reducible refine (CO1.out _ B4.out).mono ?_); rintro e W6 ⟨a6, c6, rfl, r6, bb⟩; have D6 := Lib.hid r6; have B6 := Lib.hid (B4.out.trans (bb.mono B4.out.size)); have L6 := Lib.hid (L4.out.below bb hl4); have A6 := Lib.hid (HAT.out.below bb); obtain ⟨l0_6, _⟩ := L6.out.get 0 rfl; obtain ⟨l1_6, _⟩ := L6.out.get 1 rfl; obtain ⟨l2_6, _⟩ := L6.out.get 2 rfl; obtain ⟨l3_6, _⟩ := L6.out.get 3 rfl; obtain ⟨l4_6, _⟩ := L6.out.get 4 rfl; obtain ⟨l5_6, _⟩ := L6.out.get 5 rfl; obtain ⟨l6_6, _⟩ := L6.out.get 6 rfl; obtain ⟨l7_6, _⟩ := L6.out.get 7 rfl; obtain ⟨l8_6, _⟩ := L6.out.get 8 rfl; have hl6 := L6.out.lt (by simp); clear bb r6)
        | (go_at_call 12; (with_reducible refine (CO3.out _ _ B6.out A6.out).mono ?_); rintro e W7 ⟨rfl, bb⟩; have B7 := Lib.hid (B6.out.trans (bb.mono B6.out.size)); have L7 := Lib.hid (L6.out.below bb hl6); have A7 := Lib.hid (A6.out.below bb); obtain ⟨l0_7, _⟩ := L7.out.get 0 rfl; obtain ⟨l1_7, _⟩ := L7.out.get 1 rfl; obtain ⟨l2_7, _⟩ := L7.out.get 2 rfl; obtain ⟨l3_7, _⟩ := L7.out.get 3 rfl; obtain ⟨l4_7, _⟩ := L7.out.get 4 rfl; obtain ⟨l5_7, _⟩ := L7.out.get 5 rfl; obtain ⟨l6_7, _⟩ := L7.out.get 6 rfl; obtain ⟨l7_7, _⟩ := L7.out.get 7 rfl; obtain ⟨l8_7, _⟩ := L7.out.get 8 rfl; have hl7 := L7.out.lt (by simp); clear bb)
        | (go_at_call 13; (with_reducible refine (CR3.out _ _ B7.out A7.out).mono ?_); rintro e W8 ⟨rfl, bb⟩; have B8 := Lib.hid (B7.out.trans (bb.mono B7.out.size)); clear bb))
      go_ret
      exact ⟨rfl, B8.out⟩
set_option maxRecDepth 100000 in
set_option maxHeartbeats 6400000 in
theorem relLess_none2 (va vb vv vds vot : Value) (kind rel C x y z : Int) (coef vars vs : List Int) (ds ot : Ds) (w : World) (h0 : IsAt w va coef) (h1 : IsAt w vb vars) (h2 : IsAt w vv vs) (hd : DsAt w vds ds) (ho : DsAt w vot ot) (hm : many16 coef vars vs ot = false) (hr : right16 kind rel C x y z coef vars vs ds = true) (hres1 : onceP (PL.mk kind rel C x y z coef vars vs) ds = none) (hres : onceP (PL.mk kind rel C x y z coef vars vs) (smallD ds ot ds.length) = none) :
    Calls Tryz.prog 4 #[propV kind va vb rel C x y z vv, vds, vot] w fun e w' => e = .returned (.bool true) ∧ Below w.heap.size w w' := by
  obtain ⟨i0, hi, hz0, hz1, hz2⟩ := info_parts Tryz.infoRgs
  have CM2 := Lib.hid (fun W (h : Below w.heap.size w W) => many16_c va vb vv vot kind rel C x y z coef vars vs ot W (h0.below h) (h1.below h) (h2.below h) (ho.below h))
  have CM := Lib.hid (fun W (h : Below w.heap.size w W) => right16_c va vb vv vds kind rel C x y z coef vars vs ds W (h0.below h) (h1.below h) (h2.below h) (hd.below h))
  have CK1 := Lib.hid relCheck_4x
  have H0 := Lib.hid h0
  have H1 := Lib.hid h1
  have H2 := Lib.hid h2
  have HD := Lib.hid hd
  have HO := Lib.hid ho
  obtain ⟨a0, c0, rfl, _⟩ := IsAt.shape h0
  obtain ⟨a1, c1, rfl, _⟩ := IsAt.shape h1
  obtain ⟨a2, c2, rfl, _⟩ := IsAt.shape h2
  obtain ⟨a3, c3, rfl, _⟩ := hd.shape
  obtain ⟨a4, c4, rfl, _⟩ := ho.shape
  have HZ0 : Hid (Below w.heap.size w (w.alloc (.cells #[.int .i64 kind, .slice a0 coef.length c0, .slice a1 vars.length c1, .int .i64 rel, .int .i64 C, .int .i64 x, .int .i64 y, .int .i64 z, .slice a2 vs.length c2] 30))) := (Below.refl _ _).alloc (Nat.le_refl _) _
  have HB0 : Hid (BoxL (w.alloc (.cells #[.int .i64 kind, .slice a0 coef.length c0, .slice a1 vars.length c1, .int .i64 rel, .int .i64 C, .int .i64 x, .int .i64 y, .int .i64 z, .slice a2 vs.length c2] 30)) w.heap.size [.int .i64 kind, .slice a0 coef.length c0, .slice a1 vars.length c1, .int .i64 rel, .int .i64 C, .int .i64 x, .int .i64 y, .int .i64 z, .slice a2 vs.length c2]) := BoxL.mk' _ #[.int .i64 kind, .slice a0 coef.length c0, .slice a1 vars.length c1, .int .i64 rel, .int .i64 C, .int .i64 x, .int .i64 y, .int .i64 z, .slice a2 vs.length c2] _
  clear h0 h1 h2 hd ho
  unfold propV at CM CM2 ⊢
  obtain ⟨hmd, hck⟩ := right16_ok' hr
  obtain ⟨g1, g2, g3, g5, g4⟩ := many16_ok hmd
  have HOT := Lib.hid (many16_ok hm).2.2.2.2
  have hol := (many16_ok hm).1
  have CM1 := Lib.hid (CM2.out _ HZ0.out)
  rw [hm] at CM1
  have CM3 := Lib.hid CM.out
  rw [hr] at CM3
  have g6 : ∀ d ∈ ds, d.length ≤ 4096 := fun d hd => by have := g4 d hd; omega
  have hf := chk_fine (PL.mk kind rel C x y z coef vars vs) ds hck g6
  have g7 : ∀ d ∈ smallD ds ot ds.length, d.length ≤ 4096 := fun d hd => by have := small_short ds ot (fun d hd => by have := g4 d hd; omega) ds.length d hd; omega
  have hf2 := chk_fine (PL.mk kind rel C x y z coef vars vs) (smallD ds ot ds.length) (by rw [smallD_len]; exact hck) g7
  have HDS := Lib.hid g4
  have CO := Lib.hid (fun W (h : Below w.heap.size w W) => once_all (PL.mk kind rel C x y z coef vars vs) _ _ _ _ ds W (H0.out.below h) (H1.out.below h) (H2.out.below h) (HD.out.below h) hf (by omega) g6)
  have CO2 := Lib.hid (fun vt W (h : Below w.heap.size w W) (hs : DsAt W vt (smallD ds ot ds.length)) => once_all (PL.mk kind rel C x y z coef vars vs) _ _ _ vt _ W (H0.out.below h) (H1.out.below h) (H2.out.below h) hs hf2 (by rw [smallD_len]; omega) g7)
  have CR2 := Lib.hid (fun vt W (h : Below w.heap.size w W) (hs : DsAt W vt (smallD ds ot ds.length)) => refOnce_all (PL.mk kind rel C x y z coef vars vs) _ _ _ vt _ W (H0.out.below h) (H1.out.below h) (H2.out.below h) hs hf2 (by rw [smallD_len]; omega) g7 (by dsimp only; omega) (by dsimp only; omega))
  clear hm hr hck hmd CM CM2 hf hf2 g4 g5 g6 g7 g2 g3
  dsimp only at CO CO2 CR2
  unfold propV at CO CO2 CR2
  obtain ⟨ONE, hONE⟩ : ∃ ONE, ONE = onceP (PL.mk kind rel C x y z coef vars vs) ds := ⟨_, rfl⟩
  obtain ⟨TWO, hTWO⟩ : ∃ TWO, TWO = onceP (PL.mk kind rel C x y z coef vars vs) (smallD ds ot ds.length) := ⟨_, rfl⟩
  rw [← hONE] at CO hres1
  rw [← hTWO] at CO2 CR2 hres
  clear hONE hTWO
  have CO1 : Hid (∀ W, Below w.heap.size w W → Calls Tryz.prog 12 #[.agg #[.int .i64 kind, .slice a0 coef.length c0, .slice a1 vars.length c1, .int .i64 rel, .int .i64 C, .int .i64 x, .int .i64 y, .int .i64 z, .slice a2 vs.length c2], .slice a3 ds.length c3] W fun e w' => e = .returned (.tuple #[.slice none 0 0, .bool false]) ∧ Below W.heap.size W w') := fun W h => by
    have := CO.out W h
    rw [hres1] at this
    exact this.mono fun _ _ h => h.no
  have CO3 : Hid (∀ vt W, Below w.heap.size w W → DsAt W vt (smallD ds ot ds.length) → Calls Tryz.prog 12 #[.agg #[.int .i64 kind, .slice a0 coef.length c0, .slice a1 vars.length c1, .int .i64 rel, .int .i64 C, .int .i64 x, .int .i64 y, .int .i64 z, .slice a2 vs.length c2], vt] W fun e w' => e = .returned (.tuple #[.slice none 0 0, .bool false]) ∧ Below W.heap.size W w') := fun vt W h hs => by
    have := CO2.out vt W h hs
    rw [hres] at this
    exact this.mono fun _ _ h => h.no
  have CR3 : Hid (∀ vt W, Below w.heap.size w W → DsAt W vt (smallD ds ot ds.length) → Calls Tryz.prog 13 #[.agg #[.int .i64 kind, .slice a0 coef.length c0, .slice a1 vars.length c1, .int .i64 rel, .int .i64 C, .int .i64 x, .int .i64 y, .int .i64 z, .slice a2 vs.length c2], vt] W fun e w' => e = .returned (.tuple #[.slice none 0 0, .bool false]) ∧ Below W.heap.size W w') := fun vt W h hs => by
    have := CR2.out vt W h hs
    rw [hres] at this
    exact this.mono fun _ _ h => h.no
  clear CO CO2 CR2 hres hres1 CK1
  go_enter Tryz.func4, Tryz.ntmps4
  go_wp2_with (first
    | (go_at_call 17; (with_reducible refine (CM1.out).mono ?_); rintro e W1 ⟨rfl, bb⟩; have B1 := Lib.hid (HZ0.out.trans (bb.mono HZ0.out.size)); have L1 := Lib.hid (HB0.out.below bb (by simp)); obtain ⟨l0_1, _⟩ := L1.out.get 0 rfl; obtain ⟨l1_1, _⟩ := L1.out.get 1 rfl; obtain ⟨l2_1, _⟩ := L1.out.get 2 rfl; obtain ⟨l3_1, _⟩ := L1.out.get 3 rfl; obtain ⟨l4_1, _⟩ := L1.out.get 4 rfl; obtain ⟨l5_1, _⟩ := L1.out.get 5 rfl; obtain ⟨l6_1, _⟩ := L1.out.get 6 rfl; obtain ⟨l7_1, _⟩ := L1.out.get 7 rfl; obtain ⟨l8_1, _⟩ := L1.out.get 8 rfl; clear bb)
    | (go_at_call 18; (with_reducible refine (CM3.out _ B1.out).mono ?_); rintro e W2 ⟨rfl, bb⟩; have B2 := Lib.hid (B1.out.trans (bb.mono B1.out.size)); have L2 := Lib.hid (L1.out.below bb (by have := L1.out.lt (by simp); omega)); obtain ⟨l0_2, _⟩ := L2.out.get 0 rfl; obtain ⟨l1_2, _⟩ := L2.out.get 1 rfl; obtain ⟨l2_2, _⟩ := L2.out.get 2 rfl; obtain ⟨l3_2, _⟩ := L2.out.get 3 rfl; obtain ⟨l4_2, _⟩ := L2.out.get 4 rfl; obtain ⟨l5_2, _⟩ := L2.out.get 5 rfl; obtain ⟨l6_2, _⟩ := L2.out.get 6 rfl; obtain ⟨l7_2, _⟩ := L2.out.get 7 rfl; obtain ⟨l8_2, _⟩ := L2.out.get 8 rfl; clear bb))
  have hs3 := B2.out.size
  have hl3 := L2.out.lt (by simp)
  clear l0_1 l0_2 l1_1 l1_2 l2_1 l2_2 l3_1 l3_2 l4_1 l4_2 l5_1 l5_2 l6_1 l6_2 l7_1 l7_2 l8_1 l8_2 L1 B1 CM1 CM3 HZ0 HB0
  go_loopw [7, 8] (fun o s wr => ∃ k : Nat, ∃ us : List Value, k ≤ ds.length ∧ s = .int .i64 k ∧ Hid (DsApp wr W2.heap.size o (smallD ds ot k) us) ∧ Hid (Below W2.heap.size W2 wr)) (fun _ s _ => ds.length - (intOf s).toNat)
  case atStart => exact ⟨0, [], by omega, rfl, Lib.hid (DsApp.nil (World.ownsRow_made W2 #[] 0 (Nat.le_refl _) (by decide) rfl)), Lib.hid ((Below.refl _ _).alloc (Nat.le_refl _) _)⟩
  case round =>
    obtain ⟨k, us, hk, rfl, HA, HB⟩ := hrel
    have hle := HB.out.size
    by_cases hlt : k < ds.length
    · obtain ⟨b, off, ao, cap, rfl, q1, q2, hj0, hc, hrg⟩ := HD.out.get k hlt
      clear hj0
      have j1 : (k : Int) < ds.length := by omega
      have hBw : Hid (Below w.heap.size w wr) := B2.out.trans (HB.out.mono hs3)
      rw [← hBw.out.cell (p := ⟨b, off + k, none⟩) q2] at hc
      have hdl : ds[k].length ≤ 8 := HDS.out _ (List.getElem_mem hlt)
      have HST := Lib.hid (smallD_step ds ot k)
      have HSL := Lib.hid (smallD_len ds ot k)
      have hgd := getD_at ds k hlt []
      have HRG := Lib.hid hrg
      have HSA : Hid (smallAt ds ot k = if k < ot.length then meetL ds[k] (ot.getD k []) else ds[k]) := by show _ = _; unfold smallAt; rw [hgd]
      clear hrg hgd
      obtain ⟨oa, oc, rfl, _⟩ := HA.out.own.at.shape
      generalize smallAt ds ot k = SA at *
      generalize ds[k] = d at *
      by_cases hot : k < ot.length
      · obtain ⟨b4, o4, a4', c4', rfl, q3, q4, hj4, hc4, hr4⟩ := HO.out.get k hot
        clear hj4
        have j2 : (k : Int) < ot.length := by omega
        have hgo := getD_at ot k hot []
        have hel : ot[k].length ≤ 8 := HOT.out _ (List.getElem_mem hot)
        rw [hgo, if_pos hot] at HSA
        rw [← hBw.out.cell (p := ⟨b4, o4 + k, none⟩) q4] at hc4
        have CME := Lib.hid (refMeet_n _ _ d ot[k] wr (HRG.out.below hBw.out) (hr4.below hBw.out) (by omega) (by omega))
        rw [← HSA.out] at CME
        clear hr4 hgo
        generalize ot[k] = f at *
        rw [HSL.out]
        go_wp2_with (first
          | (go_at_call 20; (with_reducible refine CME.out.mono ?_); rintro e W5 ⟨a5, c5, rfl, r5, b5, n5⟩; have HA5 := Lib.hid (HA.out.below b5); have HAP := Lib.hid (apart_made HA.out.2.1 n5); have R5 := Lib.hid r5; have Q5 := Lib.hid (HB.out.trans (b5.mono hle)); have hs5 := b5.size; clear b5 r5 n5)
          | (at_builtin; refine wpList_append1L rfl (.tmp 51) (.tmp 53) 33 rfl W2.heap.size 22 i0 (.slice none 0 0) 24 Tryz.underlying33 hi hz0 hz1 hz2 rfl _ _ _ rfl (by have := HA5.out.2.1; rw [HSL.out] at this; exact this) _ rfl rfl (by omega) (by omega) ?_; intro g5 cap5 w5 ow bw kw gw))
        refine ⟨⟨k + 1, us ++ [.slice a5 SA.length c5], by omega, by go_num, ?_, Lib.hid (Q5.out.trans bw)⟩, by simp [intOf]; omega⟩
        have := DsApp.push (ds := smallD ds ot k) (g := g5) (cap := cap5) HA5.out R5.out (fun _ => by have := HAP.out; rw [HSL.out] at this ⊢; exact this) (by rw [HSL.out]; exact ow) (by rw [HSL.out]; exact kw) (by rw [HSL.out]; exact gw)
        rw [HSL.out, ← HST.out] at this
        exact Lib.hid this
      · have hotd : ¬ (k : Int) < ot.length := by omega
        rw [if_neg hot] at HSA
        have R5 := Lib.hid (HRG.out.below hBw.out)
        have HAP : Hid (d ≠ [] → Apart (.slice ao d.length cap) (.slice oa (smallD ds ot k).length oc)) := fun hne => apart_low HA.out.2.1 (fun b hb => by have := HRG.out.blk hne b hb; have := B2.out.size; omega)
        obtain rfl : SA = d := HSA.out
        rw [HSL.out]
        go_wp2_with (at_builtin; refine wpList_append1L rfl (.tmp 51) (.tmp 53) 33 rfl W2.heap.size 22 i0 (.slice none 0 0) 24 Tryz.underlying33 hi hz0 hz1 hz2 rfl _ _ _ rfl (by have := HA.out.2.1; rw [HSL.out] at this; exact this) _ rfl rfl (by omega) (by omega) ?_; intro g5 cap5 w5 ow bw kw gw)
        refine ⟨⟨k + 1, us ++ [.slice ao SA.length cap], by omega, by go_num, ?_, Lib.hid (HB.out.trans bw)⟩, by simp [intOf]; omega⟩
        have := DsApp.push (ds := smallD ds ot k) (g := g5) (cap := cap5) HA.out R5.out HAP.out (by rw [HSL.out]; exact ow) (by rw [HSL.out]; exact kw) (by rw [HSL.out]; exact gw)
        rw [HSL.out, ← HST.out] at this
        exact Lib.hid this
    · obtain rfl : k = ds.length := by omega
      have hSL := smallD_len ds ot ds.length
      have HSL := Lib.hid hSL
      have HAT := Lib.hid HA.out.own.at
      obtain ⟨oa, oc, rfl, _⟩ := HAT.out.shape
      have B4 := Lib.hid (B2.out.trans (HB.out.mono hs3))
      have L4 := Lib.hid (L2.out.below HB.out hl3)
      obtain ⟨l0_4, _⟩ := L4.out.get 0 rfl
      obtain ⟨l1_4, _⟩ := L4.out.get 1 rfl
      obtain ⟨l2_4, _⟩ := L4.out.get 2 rfl
      obtain ⟨l3_4, _⟩ := L4.out.get 3 rfl
      obtain ⟨l4_4, _⟩ := L4.out.get 4 rfl
      obtain ⟨l5_4, _⟩ := L4.out.get 5 rfl
      obtain ⟨l6_4, _⟩ := L4.out.get 6 rfl
      obtain ⟨l7_4, _⟩ := L4.out.get 7 rfl
      obtain ⟨l8_4, _⟩ := L4.out.get 8 rfl
      have hl4 := L4.out.lt (by simp)
      clear HA hSL
      go_wp2_with (first
        | (go_at_call 12; (with_reducible refine (CO1.out _ B4.out).mono ?_); rintro e W6 ⟨rfl, bb⟩; have B6 := Lib.hid (B4.out.trans (bb.mono B4.out.size)); have L6 := Lib.hid (L4.out.below bb hl4); have A6 := Lib.hid (HAT.out.below bb); obtain ⟨l0_6, _⟩ := L6.out.get 0 rfl; obtain ⟨l1_6, _⟩ := L6.out.get 1 rfl; obtain ⟨l2_6, _⟩ := L6.out.get 2 rfl; obtain ⟨l3_6, _⟩ := L6.out.get 3 rfl; obtain ⟨l4_6, _⟩ := L6.out.get 4 rfl; obtain ⟨l5_6, _⟩ := L6.out.get 5 rfl; obtain ⟨l6_6, _⟩ := L6.out.get 6 rfl; obtain ⟨l7_6, _⟩ := L6.out.get 7 rfl; obtain ⟨l8_6, _⟩ := L6.out.get 8 rfl; have hl6 := L6.out.lt (by simp); clear bb)
        | (go_at_call 12; (with_reducible refine (CO3.out _ _ B6.out A6.out).mono ?_); rintro e W7 ⟨rfl, bb⟩; have B7 := Lib.hid (B6.out.trans (bb.mono B6.out.size)); have L7 := Lib.hid (L6.out.below bb hl6); have A7 := Lib.hid (A6.out.below bb); obtain ⟨l0_7, _⟩ := L7.out.get 0 rfl; obtain ⟨l1_7, _⟩ := L7.out.get 1 rfl; obtain ⟨l2_7, _⟩ := L7.out.get 2 rfl; obtain ⟨l3_7, _⟩ := L7.out.get 3 rfl; obtain ⟨l4_7, _⟩ := L7.out.get 4 rfl; obtain ⟨l5_7, _⟩ := L7.out.get 5 rfl; obtain ⟨l6_7, _⟩ := L7.out.get 6 rfl; obtain ⟨l7_7, _⟩ := L7.out.get 7 rfl; obtain ⟨l8_7, _⟩ := L7.out.get 8 rfl; have hl7 := L7.out.lt (by simp); clear bb)
        | (go_at_call 13; (with_reducible refine (CR3.out _ _ B7.out A7.out).mono ?_); rintro e W8 ⟨rfl, bb⟩; have B8 := Lib.hid (B7.out.trans (bb.mono B7.out.size)); clear bb))
      go_ret
      exact ⟨rfl, B8.out⟩
set_option maxRecDepth 100000 in
set_option maxHeartbeats 6400000 in
theorem relLess_some (va vb vv vds vot : Value) (kind rel C x y z : Int) (coef vars vs : List Int) (ds ot : Ds) (w : World) (h0 : IsAt w va coef) (h1 : IsAt w vb vars) (h2 : IsAt w vv vs) (hd : DsAt w vds ds) (ho : DsAt w vot ot) (hm : many16 coef vars vs ot = false) (hr : right16 kind rel C x y z coef vars vs ds = true) (r r1 : Ds) (hres1 : onceP (PL.mk kind rel C x y z coef vars vs) ds = some r1) (hres : onceP (PL.mk kind rel C x y z coef vars vs) (smallD ds ot ds.length) = some r) (hrl1 : r1.length = ds.length) (hrl : r.length = ds.length) (hn1 : AllN r1) (hn : AllN r) (hsub : ∀ j x, memL (r.getD j []) x = true → memL (r1.getD j []) x = true) :
    Calls Tryz.prog 4 #[propV kind va vb rel C x y z vv, vds, vot] w fun e w' => e = .returned (.bool true) ∧ Below w.heap.size w w' := by
  obtain ⟨i0, hi, hz0, hz1, hz2⟩ := info_parts Tryz.infoRgs
  have CM2 := Lib.hid (fun W (h : Below w.heap.size w W) => many16_c va vb vv vot kind rel C x y z coef vars vs ot W (h0.below h) (h1.below h) (h2.below h) (ho.below h))
  have CM := Lib.hid (fun W (h : Below w.heap.size w W) => right16_c va vb vv vds kind rel C x y z coef vars vs ds W (h0.below h) (h1.below h) (h2.below h) (hd.below h))
  have CK1 := Lib.hid relCheck_4x
  have H0 := Lib.hid h0
  have H1 := Lib.hid h1
  have H2 := Lib.hid h2
  have HD := Lib.hid hd
  have HO := Lib.hid ho
  obtain ⟨a0, c0, rfl, _⟩ := IsAt.shape h0
  obtain ⟨a1, c1, rfl, _⟩ := IsAt.shape h1
  obtain ⟨a2, c2, rfl, _⟩ := IsAt.shape h2
  obtain ⟨a3, c3, rfl, _⟩ := hd.shape
  obtain ⟨a4, c4, rfl, _⟩ := ho.shape
  have HZ0 : Hid (Below w.heap.size w (w.alloc (.cells #[.int .i64 kind, .slice a0 coef.length c0, .slice a1 vars.length c1, .int .i64 rel, .int .i64 C, .int .i64 x, .int .i64 y, .int .i64 z, .slice a2 vs.length c2] 30))) := (Below.refl _ _).alloc (Nat.le_refl _) _
  have HB0 : Hid (BoxL (w.alloc (.cells #[.int .i64 kind, .slice a0 coef.length c0, .slice a1 vars.length c1, .int .i64 rel, .int .i64 C, .int .i64 x, .int .i64 y, .int .i64 z, .slice a2 vs.length c2] 30)) w.heap.size [.int .i64 kind, .slice a0 coef.length c0, .slice a1 vars.length c1, .int .i64 rel, .int .i64 C, .int .i64 x, .int .i64 y, .int .i64 z, .slice a2 vs.length c2]) := BoxL.mk' _ #[.int .i64 kind, .slice a0 coef.length c0, .slice a1 vars.length c1, .int .i64 rel, .int .i64 C, .int .i64 x, .int .i64 y, .int .i64 z, .slice a2 vs.length c2] _
  clear h0 h1 h2 hd ho
  unfold propV at CM CM2 ⊢
  obtain ⟨hmd, hck⟩ := right16_ok' hr
  obtain ⟨g1, g2, g3, g5, g4⟩ := many16_ok hmd
  have HOT := Lib.hid (many16_ok hm).2.2.2.2
  have hol := (many16_ok hm).1
  have CM1 := Lib.hid (CM2.out _ HZ0.out)
  rw [hm] at CM1
  have CM3 := Lib.hid CM.out
  rw [hr] at CM3
  have g6 : ∀ d ∈ ds, d.length ≤ 4096 := fun d hd => by have := g4 d hd; omega
  have hf := chk_fine (PL.mk kind rel C x y z coef vars vs) ds hck g6
  have g7 : ∀ d ∈ smallD ds ot ds.length, d.length ≤ 4096 := fun d hd => by have := small_short ds ot (fun d hd => by have := g4 d hd; omega) ds.length d hd; omega
  have hf2 := chk_fine (PL.mk kind rel C x y z coef vars vs) (smallD ds ot ds.length) (by rw [smallD_len]; exact hck) g7
  have HDS := Lib.hid g4
  have CO := Lib.hid (fun W (h : Below w.heap.size w W) => once_all (PL.mk kind rel C x y z coef vars vs) _ _ _ _ ds W (H0.out.below h) (H1.out.below h) (H2.out.below h) (HD.out.below h) hf (by omega) g6)
  have CO2 := Lib.hid (fun vt W (h : Below w.heap.size w W) (hs : DsAt W vt (smallD ds ot ds.length)) => once_all (PL.mk kind rel C x y z coef vars vs) _ _ _ vt _ W (H0.out.below h) (H1.out.below h) (H2.out.below h) hs hf2 (by rw [smallD_len]; omega) g7)
  have CR2 := Lib.hid (fun vt W (h : Below w.heap.size w W) (hs : DsAt W vt (smallD ds ot ds.length)) => refOnce_all (PL.mk kind rel C x y z coef vars vs) _ _ _ vt _ W (H0.out.below h) (H1.out.below h) (H2.out.below h) hs hf2 (by rw [smallD_len]; omega) g7 (by dsimp only; omega) (by dsimp only; omega))
  clear hm hr hck hmd CM CM2 hf hf2 g4 g5 g6 g7 g2 g3
  dsimp only at CO CO2 CR2
  unfold propV at CO CO2 CR2
  obtain ⟨ONE, hONE⟩ : ∃ ONE, ONE = onceP (PL.mk kind rel C x y z coef vars vs) ds := ⟨_, rfl⟩
  obtain ⟨TWO, hTWO⟩ : ∃ TWO, TWO = onceP (PL.mk kind rel C x y z coef vars vs) (smallD ds ot ds.length) := ⟨_, rfl⟩
  rw [← hONE] at CO hres1
  rw [← hTWO] at CO2 CR2 hres
  clear hONE hTWO
  have HRL : Hid (r.length = ds.length) := hrl
  have HRL1 : Hid (r1.length = ds.length) := hrl1
  have CO1 : Hid (∀ W, Below w.heap.size w W → Calls Tryz.prog 12 #[.agg #[.int .i64 kind, .slice a0 coef.length c0, .slice a1 vars.length c1, .int .i64 rel, .int .i64 C, .int .i64 x, .int .i64 y, .int .i64 z, .slice a2 vs.length c2], .slice a3 ds.length c3] W fun e w' => ∃ ao cap, e = .returned (.tuple #[.slice ao ds.length cap, .bool true]) ∧ DsAt w' (.slice ao ds.length cap) r1 ∧ Below W.heap.size W w') := fun W h => by
    have := CO.out W h
    rw [hres1] at this
    exact this.mono fun _ _ h => by
      have h2 := h.is
      rw [HRL1.out] at h2
      exact h2
  have CO3 : Hid (∀ vt W, Below w.heap.size w W → DsAt W vt (smallD ds ot ds.length) → Calls Tryz.prog 12 #[.agg #[.int .i64 kind, .slice a0 coef.length c0, .slice a1 vars.length c1, .int .i64 rel, .int .i64 C, .int .i64 x, .int .i64 y, .int .i64 z, .slice a2 vs.length c2], vt] W fun e w' => ∃ ao cap, e = .returned (.tuple #[.slice ao ds.length cap, .bool true]) ∧ DsAt w' (.slice ao ds.length cap) r ∧ Below W.heap.size W w') := fun vt W h hs => by
    have := CO2.out vt W h hs
    rw [hres] at this
    exact this.mono fun _ _ h => by
      have h2 := h.is
      rw [HRL.out] at h2
      exact h2
  have CR3 : Hid (∀ vt W, Below w.heap.size w W → DsAt W vt (smallD ds ot ds.length) → Calls Tryz.prog 13 #[.agg #[.int .i64 kind, .slice a0 coef.length c0, .slice a1 vars.length c1, .int .i64 rel, .int .i64 C, .int .i64 x, .int .i64 y, .int .i64 z, .slice a2 vs.length c2], vt] W fun e w' => ∃ ao cap, e = .returned (.tuple #[.slice ao ds.length cap, .bool true]) ∧ DsAt w' (.slice ao ds.length cap) r ∧ Below W.heap.size W w') := fun vt W h hs => by
    have := CR2.out vt W h hs
    rw [hres] at this
    exact this.mono fun _ _ h => by
      have h2 := h.is
      rw [HRL.out] at h2
      exact h2
  have HSR0 := Lib.hid hsub
  have HL1 : Hid (∀ j, (hj : j < r1.length) → r1[j].length ≤ 4096) := fun j hj => allN_short hn1 j hj
  have HL2 : Hid (∀ j, (hj : j < r.length) → r[j].length ≤ 4096) := fun j hj => allN_short hn j hj
  clear CO CO2 CR2 hres hres1 CK1 hrl hrl1 hn1 hn hsub
  go_enter Tryz.func4, Tryz.ntmps4
  go_wp2_with (first
    | (go_at_call 17; (with_reducible refine (CM1.out).mono ?_); rintro e W1 ⟨rfl, bb⟩; have B1 := Lib.hid (HZ0.out.trans (bb.mono HZ0.out.size)); have L1 := Lib.hid (HB0.out.below bb (by simp)); obtain ⟨l0_1, _⟩ := L1.out.get 0 rfl; obtain ⟨l1_1, _⟩ := L1.out.get 1 rfl; obtain ⟨l2_1, _⟩ := L1.out.get 2 rfl; obtain ⟨l3_1, _⟩ := L1.out.get 3 rfl; obtain ⟨l4_1, _⟩ := L1.out.get 4 rfl; obtain ⟨l5_1, _⟩ := L1.out.get 5 rfl; obtain ⟨l6_1, _⟩ := L1.out.get 6 rfl; obtain ⟨l7_1, _⟩ := L1.out.get 7 rfl; obtain ⟨l8_1, _⟩ := L1.out.get 8 rfl; clear bb)
    | (go_at_call 18; (with_reducible refine (CM3.out _ B1.out).mono ?_); rintro e W2 ⟨rfl, bb⟩; have B2 := Lib.hid (B1.out.trans (bb.mono B1.out.size)); have L2 := Lib.hid (L1.out.below bb (by have := L1.out.lt (by simp); omega)); obtain ⟨l0_2, _⟩ := L2.out.get 0 rfl; obtain ⟨l1_2, _⟩ := L2.out.get 1 rfl; obtain ⟨l2_2, _⟩ := L2.out.get 2 rfl; obtain ⟨l3_2, _⟩ := L2.out.get 3 rfl; obtain ⟨l4_2, _⟩ := L2.out.get 4 rfl; obtain ⟨l5_2, _⟩ := L2.out.get 5 rfl; obtain ⟨l6_2, _⟩ := L2.out.get 6 rfl; obtain ⟨l7_2, _⟩ := L2.out.get 7 rfl; obtain ⟨l8_2, _⟩ := L2.out.get 8 rfl; clear bb))
  have hs3 := B2.out.size
  have hl3 := L2.out.lt (by simp)
  clear l0_1 l0_2 l1_1 l1_2 l2_1 l2_2 l3_1 l3_2 l4_1 l4_2 l5_1 l5_2 l6_1 l6_2 l7_1 l7_2 l8_1 l8_2 L1 B1 CM1 CM3 HZ0 HB0
  go_loopw [7, 8] (fun o s wr => ∃ k : Nat, ∃ us : List Value, k ≤ ds.length ∧ s = .int .i64 k ∧ Hid (DsApp wr W2.heap.size o (smallD ds ot k) us) ∧ Hid (Below W2.heap.size W2 wr)) (fun _ s _ => ds.length - (intOf s).toNat)
  case atStart => exact ⟨0, [], by omega, rfl, Lib.hid (DsApp.nil (World.ownsRow_made W2 #[] 0 (Nat.le_refl _) (by decide) rfl)), Lib.hid ((Below.refl _ _).alloc (Nat.le_refl _) _)⟩
  case round =>
    obtain ⟨k, us, hk, rfl, HA, HB⟩ := hrel
    have hle := HB.out.size
    by_cases hlt : k < ds.length
    · obtain ⟨b, off, ao, cap, rfl, q1, q2, hj0, hc, hrg⟩ := HD.out.get k hlt
      clear hj0
      have j1 : (k : Int) < ds.length := by omega
      have hBw : Hid (Below w.heap.size w wr) := B2.out.trans (HB.out.mono hs3)
      rw [← hBw.out.cell (p := ⟨b, off + k, none⟩) q2] at hc
      have hdl : ds[k].length ≤ 8 := HDS.out _ (List.getElem_mem hlt)
      have HST := Lib.hid (smallD_step ds ot k)
      have HSL := Lib.hid (smallD_len ds ot k)
      have hgd := getD_at ds k hlt []
      have HRG := Lib.hid hrg
      have HSA : Hid (smallAt ds ot k = if k < ot.length then meetL ds[k] (ot.getD k []) else ds[k]) := by show _ = _; unfold smallAt; rw [hgd]
      clear hrg hgd
      obtain ⟨oa, oc, rfl, _⟩ := HA.out.own.at.shape
      generalize smallAt ds ot k = SA at *
      generalize ds[k] = d at *
      by_cases hot : k < ot.length
      · obtain ⟨b4, o4, a4', c4', rfl, q3, q4, hj4, hc4, hr4⟩ := HO.out.get k hot
        clear hj4
        have j2 : (k : Int) < ot.length := by omega
        have hgo := getD_at ot k hot []
        have hel : ot[k].length ≤ 8 := HOT.out _ (List.getElem_mem hot)
        rw [hgo, if_pos hot] at HSA
        rw [← hBw.out.cell (p := ⟨b4, o4 + k, none⟩) q4] at hc4
        have CME := Lib.hid (refMeet_n _ _ d ot[k] wr (HRG.out.below hBw.out) (hr4.below hBw.out) (by omega) (by omega))
        rw [← HSA.out] at CME
        clear hr4 hgo
        generalize ot[k] = f at *
        rw [HSL.out]
        go_wp2_with (first
          | (go_at_call 20; (with_reducible refine CME.out.mono ?_); rintro e W5 ⟨a5, c5, rfl, r5, b5, n5⟩; have HA5 := Lib.hid (HA.out.below b5); have HAP := Lib.hid (apart_made HA.out.2.1 n5); have R5 := Lib.hid r5; have Q5 := Lib.hid (HB.out.trans (b5.mono hle)); have hs5 := b5.size; clear b5 r5 n5)
          | (at_builtin; refine wpList_append1L rfl (.tmp 51) (.tmp 53) 33 rfl W2.heap.size 22 i0 (.slice none 0 0) 24 Tryz.underlying33 hi hz0 hz1 hz2 rfl _ _ _ rfl (by have := HA5.out.2.1; rw [HSL.out] at this; exact this) _ rfl rfl (by omega) (by omega) ?_; intro g5 cap5 w5 ow bw kw gw))
        refine ⟨⟨k + 1, us ++ [.slice a5 SA.length c5], by omega, by go_num, ?_, Lib.hid (Q5.out.trans bw)⟩, by simp [intOf]; omega⟩
        have := DsApp.push (ds := smallD ds ot k) (g := g5) (cap := cap5) HA5.out R5.out (fun _ => by have := HAP.out; rw [HSL.out] at this ⊢; exact this) (by rw [HSL.out]; exact ow) (by rw [HSL.out]; exact kw) (by rw [HSL.out]; exact gw)
        rw [HSL.out, ← HST.out] at this
        exact Lib.hid this
      · have hotd : ¬ (k : Int) < ot.length := by omega
        rw [if_neg hot] at HSA
        have R5 := Lib.hid (HRG.out.below hBw.out)
        have HAP : Hid (d ≠ [] → Apart (.slice ao d.length cap) (.slice oa (smallD ds ot k).length oc)) := fun hne => apart_low HA.out.2.1 (fun b hb => by have := HRG.out.blk hne b hb; have := B2.out.size; omega)
        obtain rfl : SA = d := HSA.out
        rw [HSL.out]
        go_wp2_with (at_builtin; refine wpList_append1L rfl (.tmp 51) (.tmp 53) 33 rfl W2.heap.size 22 i0 (.slice none 0 0) 24 Tryz.underlying33 hi hz0 hz1 hz2 rfl _ _ _ rfl (by have := HA.out.2.1; rw [HSL.out] at this; exact this) _ rfl rfl (by omega) (by omega) ?_; intro g5 cap5 w5 ow bw kw gw)
        refine ⟨⟨k + 1, us ++ [.slice ao SA.length cap], by omega, by go_num, ?_, Lib.hid (HB.out.trans bw)⟩, by simp [intOf]; omega⟩
        have := DsApp.push (ds := smallD ds ot k) (g := g5) (cap := cap5) HA.out R5.out HAP.out (by rw [HSL.out]; exact ow) (by rw [HSL.out]; exact kw) (by rw [HSL.out]; exact gw)
        rw [HSL.out, ← HST.out] at this
        exact Lib.hid this
    · obtain rfl : k = ds.length := by omega
      have hSL := smallD_len ds ot ds.length
      have HSL := Lib.hid hSL
      have HAT := Lib.hid HA.out.own.at
      obtain ⟨oa, oc, rfl, _⟩ := HAT.out.shape
      have B4 := Lib.hid (B2.out.trans (HB.out.mono hs3))
      have L4 := Lib.hid (L2.out.below HB.out hl3)
      obtain ⟨l0_4, _⟩ := L4.out.get 0 rfl
      obtain ⟨l1_4, _⟩ := L4.out.get 1 rfl
      obtain ⟨l2_4, _⟩ := L4.out.get 2 rfl
      obtain ⟨l3_4, _⟩ := L4.out.get 3 rfl
      obtain ⟨l4_4, _⟩ := L4.out.get 4 rfl
      obtain ⟨l5_4, _⟩ := L4.out.get 5 rfl
      obtain ⟨l6_4, _⟩ := L4.out.get 6 rfl
      obtain ⟨l7_4, _⟩ := L4.out.get 7 rfl
      obtain ⟨l8_4, _⟩ := L4.out.get 8 rfl
      have hl4 := L4.out.lt (by simp)
      clear HA hSL
      go_wp2_with (first
        | (go_at_call 12; (with_reducible refine (CO1.out _ B4.out).mono ?_); rintro e W6 ⟨a6, c6, rfl, r6, bb⟩; have D6 := Lib.hid r6; have B6 := Lib.hid (B4.out.trans (bb.mono B4.out.size)); have L6 := Lib.hid (L4.out.below bb hl4); have A6 := Lib.hid (HAT.out.below bb); obtain ⟨l0_6, _⟩ := L6.out.get 0 rfl; obtain ⟨l1_6, _⟩ := L6.out.get 1 rfl; obtain ⟨l2_6, _⟩ := L6.out.get 2 rfl; obtain ⟨l3_6, _⟩ := L6.out.get 3 rfl; obtain ⟨l4_6, _⟩ := L6.out.get 4 rfl; obtain ⟨l5_6, _⟩ := L6.out.get 5 rfl; obtain ⟨l6_6, _⟩ := L6.out.get 6 rfl; obtain ⟨l7_6, _⟩ := L6.out.get 7 rfl; obtain ⟨l8_6, _⟩ := L6.out.get 8 rfl; have hl6 := L6.out.lt (by simp); clear bb r6)
        | (go_at_call 12; (with_reducible refine (CO3.out _ _ B6.out A6.out).mono ?_); rintro e W7 ⟨a7, c7, rfl, r7, bb⟩; have D7 := Lib.hid r7; have D67 := Lib.hid (D6.out.below bb); have B7 := Lib.hid (B6.out.trans (bb.mono B6.out.size)); have L7 := Lib.hid (L6.out.below bb hl6); have A7 := Lib.hid (A6.out.below bb); obtain ⟨l0_7, _⟩ := L7.out.get 0 rfl; obtain ⟨l1_7, _⟩ := L7.out.get 1 rfl; obtain ⟨l2_7, _⟩ := L7.out.get 2 rfl; obtain ⟨l3_7, _⟩ := L7.out.get 3 rfl; obtain ⟨l4_7, _⟩ := L7.out.get 4 rfl; obtain ⟨l5_7, _⟩ := L7.out.get 5 rfl; obtain ⟨l6_7, _⟩ := L7.out.get 6 rfl; obtain ⟨l7_7, _⟩ := L7.out.get 7 rfl; obtain ⟨l8_7, _⟩ := L7.out.get 8 rfl; have hl7 := L7.out.lt (by simp); clear bb r7)
        | (go_at_call 13; (with_reducible refine (CR3.out _ _ B7.out A7.out).mono ?_); rintro e W8 ⟨a8, c8, rfl, r8, bb⟩; have D8 := Lib.hid (D7.out.below bb); have D68 := Lib.hid (D67.out.below bb); have B8 := Lib.hid (B7.out.trans (bb.mono B7.out.size)); clear bb r8))
      have HSR : Hid (∀ j, j < ds.length → minusL (r.getD j []) (r1.getD j []) = []) := fun j _ => minus_none _ _ (HSR0.out j)
      have h8a : Hid (DsAt W8 (.slice a6 ds.length c6) r1) := D68.out
      have h8b : Hid (DsAt W8 (.slice a7 ds.length c7) r) := D8.out
      clear D6 D67 D7 A6 A7 HAT l0_4 l0_6 l0_7 l1_4 l1_6 l1_7 l2_4 l2_6 l2_7 l3_4 l3_6 l3_7 l4_4 l4_6 l4_7 l5_4 l5_6 l5_7 l6_4 l6_6 l6_7 l7_4 l7_6 l7_7 l8_4 l8_6 l8_7 L4 L6 L7
      obtain ⟨wo, rfl⟩ : ∃ wo : World, wo = wr := ⟨_, rfl⟩
      go_loopw [16] (fun s wr => ∃ k : Nat, k ≤ ds.length ∧ s = .int .i64 k ∧ Hid (Below W8.heap.size W8 wr)) (fun s _ => ds.length - (intOf s).toNat)
      case atStart => exact ⟨0, by omega, rfl, Lib.hid (Below.refl _ _)⟩
      case round =>
        obtain ⟨k, hk, rfl, HQ⟩ := hrel
        by_cases hlt : k < ds.length
        · have hk1 : k < r1.length := by have := HRL1.out; omega
          have hk2 : k < r.length := by have := HRL.out; omega
          obtain ⟨b6, o6, a6', c6', rfl, q1, q2, hj1, hc1, hr1⟩ := h8a.out.get k hk1
          obtain ⟨b7, o7, a7', c7', rfl, q3, q4, hj2, hc2, hr2⟩ := h8b.out.get k hk2
          clear hj1 hj2
          have j1 : (k : Int) < ds.length := by omega
          have j0 : (0 : Int) ≤ (k : Int) := by omega
          have HMI : Hid (minusL r[k] r1[k] = []) := by
            have := HSR.out k hlt
            rwa [getD_at r k hk2, getD_at r1 k hk1] at this
          have hl1 : r1[k].length ≤ 4096 := HL1.out k hk1
          have hl2 : r[k].length ≤ 4096 := HL2.out k hk2
          have CMI : Hid (∀ W, Below wr.heap.size wr W → Calls Tryz.prog 21 #[.slice a7' r[k].length c7', .slice a6' r1[k].length c6'] W fun e w' => ∃ ao cap, e = .returned (.slice ao 0 cap) ∧ Below W.heap.size W w') := fun W h => by
            have h2 := HQ.out.trans (h.mono HQ.out.size)
            have := refMinus_c _ _ r[k] r1[k] W (hr2.below h2) (hr1.below h2) hl2 hl1
            rw [HMI.out] at this
            exact this.mono fun e w' ⟨ao, cap, he, _, hb⟩ => ⟨ao, cap, he, hb⟩
          clear hr1 hr2
          have HSW : Hid (∀ W', Below wr.heap.size wr W' → W'.cell? ⟨b7, o7 + k, none⟩ = some (.slice a7' r[k].length c7') ∧ W'.cell? ⟨b6, o6 + k, none⟩ = some (.slice a6' r1[k].length c6')) := fun W' h => by
            have h2 := HQ.out.trans (h.mono HQ.out.size)
            exact ⟨(h2.cell (p := ⟨b7, o7 + k, none⟩) q4).trans hc2, (h2.cell (p := ⟨b6, o6 + k, none⟩) q2).trans hc1⟩
          clear hc1 hc2 HMI
          generalize r[k] = x' at *
          generalize r1[k] = y' at *
          obtain ⟨s0, s1⟩ := HSW.out wr (Below.refl _ _)
          go_wp2
          go_region_held3 (fun W' => W'.cell? ⟨b7, o7 + k, none⟩ = some (.slice a7' x'.length c7') ∧ W'.cell? ⟨b6, o6 + k, none⟩ = some (.slice a6' y'.length c6')) ((first | exact HSW.out _ BW.out | (refine HSW.out _ ?_; go_grown)))
            (first | (go_at_call 21; refine (CMI.out _ ?_).mono ?_; (· go_grown); rintro e W4 ⟨a9, c9, rfl, bb⟩; have bw : Below wr.heap.size wr W4 := Below.trans (by go_grown) bb; have BW := Lib.hid bw; clear bb bw))
          all_goals
            go_wp2
            exact ⟨⟨k + 1, by omega, by go_num, Lib.hid (HQ.out.trans (BW.out.mono HQ.out.size))⟩, by simp [intOf]; omega⟩
        · go_wp2
          go_ret
          exact ⟨rfl, B8.out.trans (HQ.out.mono B8.out.size)⟩
theorem relLess_any (va vb vv vds vot : Value) (kind rel C x y z : Int) (coef vars vs : List Int) (ds ot : Ds) (w : World) (h0 : IsAt w va coef) (h1 : IsAt w vb vars) (h2 : IsAt w vv vs) (hd : DsAt w vds ds) (ho : DsAt w vot ot) :
    Calls Tryz.prog 4 #[propV kind va vb rel C x y z vv, vds, vot] w fun e w' => e = .returned (.bool true) ∧ Below w.heap.size w w' := by
  by_cases hm : many16 coef vars vs ot = false
  · by_cases hr : right16 kind rel C x y z coef vars vs ds = true
    · have hg : (PL.mk kind rel C x y z coef vars vs).Good ds.length := by
        obtain ⟨hmd, hck⟩ := right16_ok' hr
        exact (chk_fine (PL.mk kind rel C x y z coef vars vs) ds hck (fun d hd => by have := (many16_ok hmd).2.2.2.2 d hd; omega)).good
      cases hres : onceP (PL.mk kind rel C x y z coef vars vs) (smallD ds ot ds.length) with
      | none =>
        cases hres1 : onceP (PL.mk kind rel C x y z coef vars vs) ds with
        | none => exact relLess_none2 va vb vv vds vot kind rel C x y z coef vars vs ds ot w h0 h1 h2 hd ho hm hr hres1 hres
        | some r1 => exact relLess_none1 va vb vv vds vot kind rel C x y z coef vars vs ds ot w h0 h1 h2 hd ho hm hr r1 hres1 (onceP_len hres1) hres
      | some r =>
        obtain ⟨r1, hres1, hsub⟩ := onceP_mono (b := ds) (by rw [smallD_len]; exact hg) (smallD_len ds ot ds.length) (fun j x hx => by rw [getD_map_norm] at hx ⊢; exact small_sub ds ot j x hx) hres
        exact relLess_some va vb vv vds vot kind rel C x y z coef vars vs ds ot w h0 h1 h2 hd ho hm hr r r1 hres1 hres (onceP_len hres1) ((onceP_len hres).trans (smallD_len ds ot ds.length)) (onceP_normal hres1) (onceP_normal hres) hsub
    · exact relLess_bad2 va vb vv vds vot kind rel C x y z coef vars vs ds ot w h0 h1 h2 hd ho hm (by simpa using hr)
  · exact relLess_bad1 va vb vv vds vot kind rel C x y z coef vars vs ds ot w h0 h1 h2 hd ho (by simpa using hm)
end Go.Proofs.YtajooiainglpmaaGreat
