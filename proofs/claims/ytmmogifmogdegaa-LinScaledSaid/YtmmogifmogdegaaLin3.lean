/-
  lin.Sums, lin.Says, walked.
-/
import Derived.Test.YtmmogifmogdegaaLin2
namespace Go.Proofs.Ytmmogifmogdegaa
open Go.RowKit

theorem parts_ok (va vb vds : Value) (rel c : Int) (coef vars : List Int) (ds : Ds) (w : World) (h0 : IsAt w va coef) (h1 : IsAt w vb vars) (hd : DsAt w vds ds) (hg : GoodL coef vars ds) (hA : allOk ds (coef.zip vars) = true) :
    Calls Try.prog 25 #[.agg #[va, vb, .int .i64 rel, .int .i64 c], vds] w fun e w' => ∃ ao cap, e = .returned (.tuple #[.slice ao (coef.zip vars).length cap, .agg #[.int .i64 (loS ds (coef.zip vars)), .int .i64 (hiS ds (coef.zip vars))], .bool true]) ∧ RgAt w' (.slice ao (coef.zip vars).length cap) (spans ds (coef.zip vars)) ∧ Below w.heap.size w w' :=
  (parts_c va vb vds rel c coef vars ds w h0 h1 hd hg).mono fun e w' ⟨hb, h⟩ => by
    rcases h with ⟨_, ao, cap, he, hr⟩ | ⟨hn, _⟩
    · exact ⟨ao, cap, he, hr, hb⟩
    · rw [hA] at hn; cases hn
theorem parts_no (va vb vds : Value) (rel c : Int) (coef vars : List Int) (ds : Ds) (w : World) (h0 : IsAt w va coef) (h1 : IsAt w vb vars) (hd : DsAt w vds ds) (hg : GoodL coef vars ds) (hA : allOk ds (coef.zip vars) = false) :
    Calls Try.prog 25 #[.agg #[va, vb, .int .i64 rel, .int .i64 c], vds] w fun e w' => e = .returned (.tuple #[.slice none 0 0, .agg #[.int .i64 0, .int .i64 0], .bool false]) ∧ Below w.heap.size w w' :=
  (parts_c va vb vds rel c coef vars ds w h0 h1 hd hg).mono fun e w' ⟨hb, h⟩ => by
    rcases h with ⟨hn, _⟩ | ⟨_, he⟩
    · rw [hA] at hn; cases hn
    · exact ⟨he, hb⟩
/-- a sum's ends, as Sums tells them -/
def sLo (ds : Ds) (ps : Ps) : Int := if allOk ds ps = true then loS ds ps else 0
def sHi (ds : Ds) (ps : Ps) : Int := if allOk ds ps = true then hiS ds ps else 0

set_option maxRecDepth 100000 in
set_option maxHeartbeats 800000 in
theorem sums_c (va vb vds : Value) (rel c : Int) (coef vars : List Int) (ds : Ds) (w : World) (h0 : IsAt w va coef) (h1 : IsAt w vb vars) (hd : DsAt w vds ds) (hg : GoodL coef vars ds) :
    Calls Try.prog 34 #[.agg #[va, vb, .int .i64 rel, .int .i64 c], vds] w fun e w' => e = .returned (.tuple #[.int .i64 (sLo ds (coef.zip vars)), .int .i64 (sHi ds (coef.zip vars)), .bool (allOk ds (coef.zip vars))]) ∧ Below w.heap.size w w' := by
  have hZ : Below w.heap.size w (w.alloc (.cells #[va, vb, .int .i64 rel, .int .i64 c] 24)) := (Below.refl _ _).alloc (Nat.le_refl _) _
  obtain ⟨a0, c0, rfl, _⟩ := IsAt.shape h0
  obtain ⟨a1, c1, rfl, _⟩ := IsAt.shape h1
  obtain ⟨a2, c2, rfl, _⟩ := hd.shape
  unfold sLo sHi
  cases hA : allOk ds (coef.zip vars) with
  | true =>
    rw [if_pos rfl, if_pos rfl]
    have CP := Lib.hid (parts_ok _ _ _ rel c coef vars ds _ (h0.below hZ) (h1.below hZ) (hd.below hZ) hg hA)
    have HZ := Lib.hid hZ
    clear h0 h1 hd hg hA hZ
    generalize loS ds (coef.zip vars) = lo at *
    generalize hiS ds (coef.zip vars) = hi at *
    go_enter Try.func34, Try.ntmps34
    go_wp2_with (go_at_call 25; (with_reducible refine CP.out.mono ?_); rintro e W ⟨ao, cap, rfl, hr, bb⟩; have B1 := Lib.hid (HZ.out.trans (bb.mono HZ.out.size)); clear hr bb)
    go_quiet (fail)
    go_wp2
    go_ret3
    exact ⟨rfl, below_drewN (B1.out.alloc B1.out.size _) _⟩
  | false =>
    rw [if_neg (by simp), if_neg (by simp)]
    have CP := Lib.hid (parts_no _ _ _ rel c coef vars ds _ (h0.below hZ) (h1.below hZ) (hd.below hZ) hg hA)
    have HZ := Lib.hid hZ
    clear h0 h1 hd hg hA hZ
    go_enter Try.func34, Try.ntmps34
    go_wp2_with (go_at_call 25; (with_reducible refine CP.out.mono ?_); rintro e W ⟨rfl, bb⟩; have B1 := Lib.hid (HZ.out.trans (bb.mono HZ.out.size)); clear bb)
    go_quiet (fail)
    go_wp2
    go_ret3
    exact ⟨rfl, below_drewN (B1.out.alloc B1.out.size _) _⟩
end Go.Proofs.Ytmmogifmogdegaa
