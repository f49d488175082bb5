/-
  The reference's ends, Sums, fixed, stays of layer 15, walked.
-/
import Derived.Test.YtmmogifmogdegaaLin3
import Derived.Test.YtmmogifmogdegaaRefC
namespace Go.Proofs.Ytmmogifmogdegaa
open Go.RowKit

theorem ends_le (d : List Rg) : (endsL (norm d)).1 ≤ (endsL (norm d)).2.1 := by
  cases h : okT d with
  | true =>
    obtain ⟨a, _⟩ := ends_in d h
    exact (ends_mem d _ a).2.1
  | false =>
    rw [okT_nil] at h
    simp at h
    rw [h]; simp [endsL]
theorem loT_min (c : Int) (d : List Rg) : min (c * (endsL (norm d)).1) (c * (endsL (norm d)).2.1) = loT c d ∧ max (c * (endsL (norm d)).1) (c * (endsL (norm d)).2.1) = hiT c d := by
  have hle := ends_le d
  unfold loT hiT
  by_cases hc : c < 0
  · have := mul_le_neg hc hle
    rw [if_pos hc, if_pos hc]; omega
  · have := mul_le_pos hc hle
    rw [if_neg hc, if_neg hc]; omega
theorem okT_size (d : List Rg) : okT d = decide (sizeL (norm d) ≠ 0) := by
  have h := sizeL_pos (norm d) (fun r hr => (norm_bounds d r hr).2.1)
  rw [okT_nil]
  by_cases hn : norm d = []
  · rw [hn]; simp [sizeL]
  · have : sizeL (norm d) ≠ 0 := fun e => hn (h.2 e)
    simp [hn, this]

set_option maxRecDepth 100000 in
set_option maxHeartbeats 800000 in
theorem refEndsT_c (vd : Value) (c : Int) (d : List Rg) (w : World) (hd : RgAt w vd d) (hl : d.length ≤ 4096) (hc : -100000 ≤ c ∧ c ≤ 100000) :
    Calls Try.prog 45 #[.int .i64 c, vd] w fun e w' => e = .returned (.tuple #[.int .i64 (loT c d), .int .i64 (hiT c d)]) ∧ Below w.heap.size w w' := by
  obtain ⟨ao, cap, rfl, _⟩ := hd.shape
  have CE : Hid (Calls Try.prog 58 #[.slice ao d.length cap] w fun e w' => e = .returned (.tuple #[.int .i64 (endsL (norm d)).1, .int .i64 (endsL (norm d)).2.1, .bool (endsL (norm d)).2.2]) ∧ Below w.heap.size w w') := refEnds_c _ d w hd hl
  obtain ⟨b1, b2, b3, b4⟩ := ends_bnd d
  obtain ⟨e1, e2⟩ := loT_min c d
  rw [← e1, ← e2]
  clear hd e1 e2
  generalize (endsL (norm d)).1 = lo at *
  generalize (endsL (norm d)).2.1 = hi at *
  generalize (endsL (norm d)).2.2 = ok at *
  obtain ⟨m1, m2⟩ := mul_bnd lo c 100000 ⟨b1, b2⟩ hc
  obtain ⟨m3, m4⟩ := mul_bnd hi c 100000 ⟨b3, b4⟩ hc
  have w1 := wrap_small (x := c * lo) (by omega)
  have w2 := wrap_small (x := c * hi) (by omega)
  go_enter Try.func45, Try.ntmps45
  go_wp2_with (go_at_call 58; (with_reducible refine CE.out.mono ?_); rintro e W ⟨rfl, bb⟩; have B1 := Lib.hid bb; clear bb)
  go_ret2
  exact ⟨rfl, B1.out⟩

set_option maxRecDepth 100000 in
set_option maxHeartbeats 1600000 in
theorem refSums_c (va vb vds : Value) (rel c : Int) (coef vars : List Int) (ds : Ds) (w : World) (h0 : IsAt w va coef) (h1 : IsAt w vb vars) (hd : DsAt w vds ds) (hg : GoodL coef vars ds) :
    Calls Try.prog 29 #[.agg #[va, vb, .int .i64 rel, .int .i64 c], vds] w fun e w' => e = .returned (.tuple #[.int .i64 (sLo ds (coef.zip vars)), .int .i64 (sHi ds (coef.zip vars)), .bool (allOk ds (coef.zip vars))]) ∧ Below w.heap.size w w' := by
  obtain ⟨a0, c0, rfl, _⟩ := IsAt.shape h0
  obtain ⟨a1, c1, rfl, _⟩ := IsAt.shape h1
  obtain ⟨a2, c2, rfl, _⟩ := hd.shape
  have HC := Lib.hid (row_facts h0 h1 hd hg)
  have HB := Lib.hid (sums_bnd hg)
  have HS := Lib.hid (sums_step hg)
  have hn := Lib.hid hg.len
  have hn2 := Lib.hid hg.zip_len
  have hn16 := hg.le16
  clear h0 h1 hd hg
  generalize hps : coef.zip vars = ps at *
  clear hps
  go_enter Try.func29, Try.ntmps29
  go_wp2
  have HZ : Hid (Below w.heap.size w (w.alloc (.cells #[.slice a0 coef.length c0, .slice a1 vars.length c1, .int .i64 rel, .int .i64 c] 24)) ∧ (w.alloc (.cells #[.slice a0 coef.length c0, .slice a1 vars.length c1, .int .i64 rel, .int .i64 c] 24)).cell? ⟨w.heap.size, 0, none⟩ = some (.slice a0 coef.length c0) ∧ (w.alloc (.cells #[.slice a0 coef.length c0, .slice a1 vars.length c1, .int .i64 rel, .int .i64 c] 24)).cell? ⟨w.heap.size, 1, none⟩ = some (.slice a1 vars.length c1)) :=
    ⟨(Below.refl _ _).alloc (Nat.le_refl _) _, by simp, by simp⟩
  generalize (w.alloc (.cells #[.slice a0 coef.length c0, .slice a1 vars.length c1, .int .i64 rel, .int .i64 c] 24)) = W at HZ ⊢
  obtain ⟨y0, y1⟩ := HZ.out.2
  have Y := Lib.hid HZ.out.2
  have HB0 := Lib.hid HZ.out.1
  have hwl : w.heap.size < W.heap.size := World.block_lt_of_cell? W _ y0
  have hwz := HB0.out.size
  clear HZ y0 y1
  go_loopw [7, 8, 9] (fun a b s wr => ∃ k : Nat, k ≤ ps.length ∧ s = .int .i64 k ∧ a = .int .i64 (loS ds (ps.take k)) ∧ b = .int .i64 (hiS ds (ps.take k)) ∧ Hid (allOk ds (ps.take k) = true) ∧ Below W.heap.size W wr) (fun _ _ s _ => ps.length - (intOf s).toNat)
  case atStart => exact ⟨0, by omega, rfl, by simp [loS], by simp [hiS], rfl, Below.refl _ _⟩
  case round =>
    obtain ⟨k, hk, rfl, rfl, rfl, HA, hbel⟩ := hrel
    have HB1 := Lib.hid hbel
    have hle := hbel.size
    clear hbel
    have y0 := (HB1.out.cell (p := ⟨w.heap.size, 0, none⟩) hwl).trans Y.out.1
    have y1 := (HB1.out.cell (p := ⟨w.heap.size, 1, none⟩) hwl).trans Y.out.2
    have hbw : Below w.heap.size w wr := HB0.out.trans (HB1.out.mono hwz)
    by_cases hlt : k < ps.length
    · obtain ⟨b0, o0, b1, o1', b2, o2, n, ao, cap, cf, d, ⟨rfl, rfl, rfl⟩, ⟨l0, l1, l2⟩, ⟨q0, q1, q2⟩, hnn, x0, x1, x2, x3, e1, e2, hdl, hc1, hc2⟩ := HC.out k hlt
      obtain ⟨t1, t2, t3, t4, t5⟩ := HS.out k hlt cf n d e1 e2
      have T1 := Lib.hid t1; have T2 := Lib.hid t2; have T4 := Lib.hid t4; have T5 := Lib.hid t5
      obtain ⟨⟨z1, z2⟩, ⟨z3, z4⟩⟩ := HB.out k
      obtain ⟨⟨z5, z6⟩, ⟨z7, z8⟩⟩ := loT_bnd cf d ⟨hc1, hc2⟩
      rw [← hbw.cell (p := ⟨b0, o0 + k, none⟩) q0] at x0
      rw [← hbw.cell (p := ⟨b1, o1' + k, none⟩) q1] at x1
      rw [← hbw.cell (p := ⟨b2, o2 + n, none⟩) q2] at x2
      have j1 : (k : Int) < coef.length := by have := hn2.out; omega
      have j2 : (k : Int) < vars.length := by have := hn.out; have := hn2.out; omega
      have j3 : (n : Int) < ds.length := by omega
      have j4 : (k : Int) ≤ 16 := by have := hn2.out; omega
      have hok := okT_size d
      have hsb : sizeL (norm d) ≤ 401 := by unfold norm; rw [sizeL_canon]; exact (cnt_nonneg _ 401 (-200)).2
      have CS : Hid (Calls Try.prog 17 #[.slice ao d.length cap] wr fun e w' => e = .returned (.int .i64 (sizeL (norm d))) ∧ Below wr.heap.size wr w') := refSize_c _ d wr (x3.below hbw) hdl
      have CE : Hid (∀ W', Below wr.heap.size wr W' → Calls Try.prog 45 #[.int .i64 cf, .slice ao d.length cap] W' fun e w' => e = .returned (.tuple #[.int .i64 (loT cf d), .int .i64 (hiT cf d)]) ∧ Below W'.heap.size W' w') := fun W' h => refEndsT_c _ cf d W' (x3.below (hbw.trans (h.mono hbw.size))) hdl ⟨hc1, hc2⟩
      clear t1 t2 t3 t4 t5 x3 e1 e2
      generalize loT cf d = tlo at *
      generalize hiT cf d = thi at *
      generalize okT d = ok at *
      generalize sizeL (norm d) = sz at *
      generalize loS ds (ps.take k) = slo at *
      generalize hiS ds (ps.take k) = shi at *
      have hbs : Hid (b0 < wr.heap.size ∧ b1 < wr.heap.size ∧ b2 < wr.heap.size ∧ w.heap.size < wr.heap.size) := by
        have := hbw.size
        exact ⟨by omega, by omega, by omega, by omega⟩
      by_cases hz : sz = 0
      · subst hz
        have hokf : ok = false := by rw [hok]; simp
        subst hokf
        have hall := T5.out rfl
        clear hok CE
        have HAll := Lib.hid hall
        clear hall
        go_wp2_with (go_at_call 17; (with_reducible refine CS.out.mono ?_); rintro e W2 ⟨rfl, bb⟩; have B2 := Lib.hid (hbw.trans (bb.mono hbw.size)); clear bb)
        go_ret3
        exact ⟨by have e := HAll.out; show Ending.returned (.tuple #[.int .i64 0, .int .i64 0, .bool false]) = _; unfold sLo sHi; rw [e]; simp, B2.out⟩
      · have hzf : (sz == 0) = false := beq_eq_false_iff_ne.2 hz
        have hokt : ok = true := by rw [hok]; simpa using hz
        subst hokt
        clear hok
        go_wp2_with (go_at_call 17; (with_reducible refine CS.out.mono ?_); rintro e W2 ⟨rfl, bb⟩; have BB := Lib.hid bb; clear bb)
        have v0 := (BB.out.cell (p := ⟨w.heap.size, 0, none⟩) hbs.out.2.2.2).trans y0
        have v1 := (BB.out.cell (p := ⟨w.heap.size, 1, none⟩) hbs.out.2.2.2).trans y1
        have v2 := (BB.out.cell (p := ⟨b0, o0 + k, none⟩) hbs.out.1).trans x0
        have v3 := (BB.out.cell (p := ⟨b1, o1' + k, none⟩) hbs.out.2.1).trans x1
        have v4 := (BB.out.cell (p := ⟨b2, o2 + n, none⟩) hbs.out.2.2.1).trans x2
        have k0 := qb_cell v0
        have k1 := qb_cell v1
        have k2 := qb_cell v2
        have k3 := qb_cell v3
        have k4 := qb_cell v4
        have CE2 : Hid (∀ g : QG W2, Calls Try.prog 45 #[.int .i64 cf, .slice ao d.length cap] g.1 fun e w' => e = .returned (.tuple #[.int .i64 tlo, .int .i64 thi]) ∧ Below g.1.heap.size g.1 w') := fun g => CE.out g.1 (BB.out.trans (g.2.mono BB.out.size))
        clear v0 v1 v2 v3 v4 y0 y1 x0 x1 x2
        refine wp_region_below (by kernel_rfl) (by kernel_rfl) ?_
        repeat (go_big_quiet_step ((go_at_call 45; exact qb_call _ (CE2.out _))))
        refine wpQuiet_nil ?_
        intro w1 hw1
        clear k0 k1 k2 k3 k4
        go_wp2
        exact ⟨⟨k + 1, by omega, by go_num, by rw [T1.out], by rw [T2.out], T4.out HA.out (by first | rfl | trivial), HB1.out.trans ((BB.out.trans (hw1.below.mono BB.out.size)).mono hle)⟩, by simp [intOf]; omega⟩
    · obtain rfl : k = ps.length := by omega
      have hltv : ¬ ps.length < vars.length := by have := hn.out; have := hn2.out; omega
      rw [List.take_length] at HA
      rw [List.take_length]
      have HAll := Lib.hid HA.out
      go_wp2
      go_ret3
      exact ⟨by have e := HAll.out; show Ending.returned (.tuple #[.int .i64 (loS ds ps), .int .i64 (hiS ds ps), .bool true]) = _; unfold sLo sHi; rw [e]; simp, hbw⟩
end Go.Proofs.Ytmmogifmogdegaa
