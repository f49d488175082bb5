/-
  The reference's fixed, stays of layer 15, walked.
-/
import Derived.Test.YtmmogifmogdegaaLinF1
import Derived.Test.YtmmogifmogdegaaLinG
namespace Go.Proofs.Ytmmogifmogdegaa
open Go.RowKit

set_option maxRecDepth 100000 in
set_option maxHeartbeats 1600000 in
theorem fixed_c (va vb vds : Value) (rel c : Int) (coef vars : List Int) (ds : Ds) (w : World) (h0 : IsAt w va coef) (h1 : IsAt w vb vars) (hd : DsAt w vds ds) (hg : GoodL coef vars ds) :
    Calls Try.prog 31 #[.agg #[va, vb, .int .i64 rel, .int .i64 c], vds] w fun e w' => e = .returned (.bool (fixedB ds (coef.zip vars))) ∧ Below w.heap.size w w' := by
  obtain ⟨a0, c0, rfl, _⟩ := IsAt.shape h0
  obtain ⟨a1, c1, rfl, _⟩ := IsAt.shape h1
  obtain ⟨a2, c2, rfl, _⟩ := hd.shape
  have HC := Lib.hid (row_facts h0 h1 hd hg)
  have hn := Lib.hid hg.len
  have hn2 := Lib.hid hg.zip_len
  have hn16 := hg.le16
  clear h0 h1 hd hg
  generalize hps : coef.zip vars = ps at *
  clear hps
  go_enter Try.func31, Try.ntmps31
  go_wp2
  have HZ : Hid (Below w.heap.size w (w.alloc (.cells #[.slice a0 coef.length c0, .slice a1 vars.length c1, .int .i64 rel, .int .i64 c] 24)) ∧ (w.alloc (.cells #[.slice a0 coef.length c0, .slice a1 vars.length c1, .int .i64 rel, .int .i64 c] 24)).cell? ⟨w.heap.size, 1, none⟩ = some (.slice a1 vars.length c1)) :=
    ⟨(Below.refl _ _).alloc (Nat.le_refl _) _, by simp⟩
  generalize (w.alloc (.cells #[.slice a0 coef.length c0, .slice a1 vars.length c1, .int .i64 rel, .int .i64 c] 24)) = W at HZ ⊢
  have Y := Lib.hid HZ.out.2
  have HB0 := Lib.hid HZ.out.1
  have hwl : w.heap.size < W.heap.size := World.block_lt_of_cell? W _ Y.out
  have hwz := HB0.out.size
  clear HZ
  go_loopw [5] (fun s wr => ∃ k : Nat, k ≤ ps.length ∧ s = .int .i64 k ∧ Hid (fixedB ds (ps.take k) = true) ∧ Below W.heap.size W wr) (fun s _ => ps.length - (intOf s).toNat)
  case atStart => exact ⟨0, by omega, rfl, rfl, Below.refl _ _⟩
  case round =>
    obtain ⟨k, hk, rfl, HA, hbel⟩ := hrel
    have HB1 := Lib.hid hbel
    have hle := hbel.size
    clear hbel
    have y1 := (HB1.out.cell (p := ⟨w.heap.size, 1, none⟩) hwl).trans Y.out
    have hbw : Below w.heap.size w wr := HB0.out.trans (HB1.out.mono hwz)
    by_cases hlt : k < ps.length
    · obtain ⟨b0, o0, b1, o1', b2, o2, n, ao, cap, cf, d, ⟨rfl, rfl, rfl⟩, ⟨l0, l1, l2⟩, ⟨q0, q1, q2⟩, hnn, x0, x1, x2, x3, e1, e2, hdl, hc1, hc2⟩ := HC.out k hlt
      rw [← hbw.cell (p := ⟨b1, o1' + k, none⟩) q1] at x1
      rw [← hbw.cell (p := ⟨b2, o2 + n, none⟩) q2] at x2
      have j2 : (k : Int) < vars.length := by have := hn.out; have := hn2.out; omega
      have j3 : (n : Int) < ds.length := by omega
      have j4 : (k : Int) ≤ 16 := by have := hn2.out; omega
      have hst : Hid (fixedB ds (ps.take (k + 1)) = (fixedB ds (ps.take k) && decide (sizeL (norm d) = 1)) ∧ (¬ sizeL (norm d) = 1 → fixedB ds ps = false)) := by
        constructor
        · rw [List.take_succ_eq_append_getElem hlt, e1]; simp only [fixedB, List.all_append, List.all_cons, List.all_nil, Bool.and_true, e2]
        · intro h
          unfold fixedB
          rw [List.all_eq_false]
          exact ⟨ps[k], List.getElem_mem _, by rw [e1]; simp only [e2]; simpa using h⟩
      have CS : Hid (Calls Try.prog 17 #[.slice ao d.length cap] wr fun e w' => e = .returned (.int .i64 (sizeL (norm d))) ∧ Below wr.heap.size wr w') := refSize_c _ d wr (x3.below hbw) hdl
      clear x3 e1 e2 x0
      generalize sizeL (norm d) = sz at *
      by_cases hz : sz = 1
      · subst hz
        go_wp2_with (go_at_call 17; (with_reducible refine CS.out.mono ?_); rintro e W2 ⟨rfl, bb⟩; have B2 := Lib.hid (HB1.out.trans (bb.mono hle)); clear bb)
        exact ⟨⟨k + 1, by omega, by go_num, by show _ = _; rw [hst.out.1, HA.out]; rfl, B2.out⟩, by simp [intOf]; omega⟩
      · have hzf : (sz == 1) = false := beq_eq_false_iff_ne.2 hz
        have hno := Lib.hid (hst.out.2 hz)
        go_wp2_with (go_at_call 17; (with_reducible refine CS.out.mono ?_); rintro e W2 ⟨rfl, bb⟩; have B2 := Lib.hid (hbw.trans (bb.mono hbw.size)); clear bb)
        go_ret
        exact ⟨by rw [hno.out]; rfl, B2.out⟩
    · obtain rfl : k = ps.length := by omega
      have hltv : ¬ ps.length < vars.length := by have := hn.out; have := hn2.out; omega
      rw [List.take_length] at HA
      go_wp2
      go_ret
      exact ⟨by rw [HA.out]; rfl, hbw⟩

set_option maxRecDepth 100000 in
set_option maxHeartbeats 800000 in
theorem stays_c (v0 v1 : Value) (rel C : Int) (coef : List Int) (k : Nat) (cf x lo hi : Int) (one : Bool) (w : World) (h0 : IsAt w v0 coef)
    (hk : k < coef.length) (hcf : coef[k] = cf) (hc : -100000 ≤ cf ∧ cf ≤ 100000) (hx : -200 ≤ x ∧ x ≤ 200) (hr : rel = 1 ∨ rel = 2 ∨ rel = 3) (hC : -1099511627776 ≤ C ∧ C ≤ 1099511627776) :
    Calls Try.prog 32 #[.agg #[v0, v1, .int .i64 rel, .int .i64 C], .int .i64 k, .int .i64 x, .int .i64 lo, .int .i64 hi, .bool one] w fun e w' => e = .returned (.bool (staysR rel C cf lo hi one x)) ∧ Below w.heap.size w w' := by
  obtain ⟨a0, c0, rfl, _⟩ := IsAt.shape h0
  obtain ⟨b, off, rfl, hcap, hbs, hcell⟩ := h0.get k hk
  rw [hcf] at hcell
  have j1 : (k : Int) < coef.length := by omega
  obtain ⟨m1, m2⟩ := mul_bnd x cf 100000 hx hc
  obtain ⟨hC1, hC2⟩ := hC
  have hbx : b ≠ w.heap.size := by omega
  have w1 := wrap_small (x := cf * x) (by omega)
  have w2 := wrap_small (x := C - cf * x) (by omega)
  unfold staysR
  clear h0
  generalize hy : cf * x = y at *
  have Z0 : Hid (∀ T1, Below w.heap.size w (w.alloc (.cells #[.slice (some ⟨b, off, none⟩) coef.length c0, v1, .int .i64 rel, .int .i64 C] T1))) := fun T1 => (Below.refl _ _).alloc (Nat.le_refl _) _
  rcases hr with rfl | rfl | rfl
  · by_cases h1 : lo ≤ C - y <;> by_cases h2 : C - y ≤ hi
    all_goals
      go_enter Try.func32, Try.ntmps32
      go_wp2
      go_quiet (fail)
      go_wp2
      go_ret
      exact ⟨ret_bool (by simp [h1, h2]), below_drewN (Z0.out _) _⟩
  · cases one <;> by_cases h1 : C - y = lo
    all_goals
      go_enter Try.func32, Try.ntmps32
      go_wp2
      go_quiet (fail)
      go_wp2
      go_ret
      exact ⟨ret_bool (by simp [h1]), below_drewN (Z0.out _) _⟩
  · go_enter Try.func32, Try.ntmps32
    go_wp2
    go_quiet (fail)
    go_wp2
    go_ret
    exact ⟨ret_bool (by simp), below_drewN (Z0.out _) _⟩
end Go.Proofs.Ytmmogifmogdegaa
