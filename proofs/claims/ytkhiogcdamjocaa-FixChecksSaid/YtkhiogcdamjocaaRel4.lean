/-
  The reference's Vars of layer 16, walked.
-/
import Derived.Test.YtkhiogcdamjocaaRel3
import Derived.Test.YtkhiogcdamjocaaDsApp
namespace Go.Proofs.Ytkhiogcdamjocaa
open Go.RowKit

theorem IsAt.getR {w : World} {ao : Option Addr} {n cap : Nat} {zs : List Int} (h : IsAt w (.slice ao n cap) zs) (k : Nat) (hk : k < zs.length) :
    ∃ b off, ao = some ⟨b, off, none⟩ ∧ zs.length ≤ cap ∧ b < w.heap.size ∧ w.cell? ⟨b, off + k, none⟩ = some (.int .i64 zs[k]) := by
  obtain ⟨b, off, c', he, hc, hb, hx⟩ := IsAt.at h (by omega)
  simp only [Value.slice.injEq] at he
  obtain ⟨rfl, rfl, rfl⟩ := he
  exact ⟨b, off, rfl, hc, hb, hx k hk⟩
theorem uniq_old (acc : List Int) (v : Int) (k : Nat) (hk : k < acc.length) (h : acc[k] = v) : uniq acc v = acc := by
  unfold uniq; rw [if_pos (by rw [List.contains_iff_mem]; exact h ▸ List.getElem_mem hk)]
theorem uniq_new (acc : List Int) (v : Int) (h : ∀ j, (hj : j < acc.length) → acc[j] ≠ v) : uniq acc v = acc ++ [v] := by
  unfold uniq; rw [if_neg]
  intro hc
  rw [List.contains_iff_mem] at hc
  obtain ⟨j, hj, e⟩ := List.getElem_of_mem hc
  exact h j hj e

set_option maxRecDepth 100000 in
set_option maxHeartbeats 1600000 in
theorem refVars_c (kind : Int) (va vb vv : Value) (rel c x y z : Int) (coef vars vs : List Int) (w : World) (h0 : IsAt w va coef) (h1 : IsAt w vb vars) (h2 : IsAt w vv vs) (hl1 : vars.length ≤ 4096) (hl2 : vs.length ≤ 4096) :
    Calls Try.prog 11 #[propV kind va vb rel c x y z vv] w fun e w' => ∃ ao cap, e = .returned (.slice ao (uniqL (allL kind vars x y z vs)).length cap) ∧ IsAt w' (.slice ao (uniqL (allL kind vars x y z vs)).length cap) (uniqL (allL kind vars x y z vs)) ∧ Below w.heap.size w w' := by
  obtain ⟨i0, hi, hz0, hz1, hz2⟩ := info_parts Try.infoIntR
  have hal : (allL kind vars x y z vs).length ≤ 4097 := by
    unfold allL; split
    · omega
    · split
      · simp
      · split
        · omega
        · split <;> simp; omega
  have HZ : Hid (Below w.heap.size w (w.alloc (.cells #[.int .i64 kind, va, vb, .int .i64 rel, .int .i64 c, .int .i64 x, .int .i64 y, .int .i64 z, vv] 26))) := (Below.refl _ _).alloc (Nat.le_refl _) _
  have CA := Lib.hid (all_c kind va vb vv rel c x y z coef vars vs _ (h0.below HZ.out) (h1.below HZ.out) (h2.below HZ.out) hl1 hl2)
  obtain ⟨a0, c0, rfl, _⟩ := SlAt.shape h0
  obtain ⟨a1, c1, rfl, _⟩ := SlAt.shape h1
  obtain ⟨a2, c2, rfl, _⟩ := SlAt.shape h2
  clear h0 h1 h2 hl1 hl2
  unfold propV at *
  generalize allL kind vars x y z vs = A at *
  go_enter Try.func11, Try.ntmps11
  go_wp2_with (go_at_call 33; (with_reducible refine CA.out.mono ?_); rintro e W1 ⟨a3, c3, rfl, i3, bb⟩; have B1 := Lib.hid (HZ.out.trans (bb.mono HZ.out.size)); have I3 := Lib.hid i3; clear bb i3)
  go_loopw [4, 5] (fun o s wr => ∃ i : Nat, i ≤ A.length ∧ s = .int .i64 i ∧ wr.ownsRow W1.heap.size 3 1 o (uniqL (A.take i)).length ((uniqL (A.take i)).map (Value.int .i64)) ∧ Hid (Below W1.heap.size W1 wr)) (fun _ s _ => A.length - (intOf s).toNat)
  case atStart => exact ⟨0, by omega, rfl, World.ownsRow_made W1 #[] 0 (Nat.le_refl _) (by decide) rfl, Lib.hid ((Below.refl _ _).alloc (Nat.le_refl _) _)⟩
  case round =>
    obtain ⟨i, hil, rfl, hown, HB⟩ := hrel
    have hle := HB.out.size
    have hul := uniqL_len (A.take i)
    by_cases hlt : i < A.length
    · obtain ⟨b1, o1, rfl, q1, q2, x1⟩ := I3.out.getR i hlt
      have X1 := Lib.hid x1
      rw [← HB.out.cell (p := ⟨b1, o1 + i, none⟩) q2] at x1
      have hun := uniqL_snoc (A.take i) A[i]
      rw [← List.take_succ_eq_append_getElem hlt] at hun
      have HU := Lib.hid hun
      have hOl : (uniqL (A.take i)).length ≤ 4097 := by rw [List.length_take] at hul; omega
      have j1 : (i : Int) < A.length := by omega
      clear hun hul
      generalize uniqL (A.take i) = O at *
      generalize A[i] = v at *
      obtain ⟨oa, oc, rfl, _⟩ := (SlAt.of_own hown).shape
      have HOW := Lib.hid hown
      have IO := Lib.hid (show IsAt wr (.slice oa O.length oc) O from SlAt.of_own hown)
      clear hown
      obtain ⟨wo, rfl⟩ : ∃ wo : World, wo = wr := ⟨_, rfl⟩
      go_wp2
      go_loopw [6] (fun s wr => ∃ k : Nat, k ≤ O.length ∧ s = .int .i64 k ∧ Hid (∀ j, (hj : j < O.length) → j < k → O[j] ≠ v) ∧ Hid (Below wo.heap.size wo wr)) (fun s _ => O.length - (intOf s).toNat)
      case atStart => exact ⟨0, by omega, rfl, fun j _ h => by omega, Lib.hid (Below.refl _ _)⟩
      case round =>
        obtain ⟨k, hk, rfl, HN, HV⟩ := hrel
        have x2 := (HB.out.trans (HV.out.mono hle)).cell (p := ⟨b1, o1 + i, none⟩) q2 |>.trans X1.out
        have hv := HV.out.size
        have own2 := own_below HOW.out HV.out
        by_cases hkt : k < O.length
        · obtain ⟨b2, o2, rfl, q3, q4, y1⟩ := IO.out.getR k hkt
          rw [← HV.out.cell (p := ⟨b2, o2 + k, none⟩) q4] at y1
          have j2 : (k : Int) < O.length := by omega
          have hdt : decide ((k : Int) < O.length) = true := decide_eq_true j2
          have HQ : Hid (O[k] ≠ v → ∀ j, (hj : j < O.length) → j < k + 1 → O[j] ≠ v) := fun h j hj hjk => by
            rcases Nat.lt_or_ge j k with h1 | h1
            · exact HN.out j hj h1
            · obtain rfl : j = k := by omega
              exact h
          have HOld := Lib.hid (uniq_old O v k hkt)
          generalize O[k] = u at *
          by_cases huv : u = v
          · have hne : (u != v) = false := by simp [huv]
            have HO := Lib.hid (HOld.out huv)
            have hko : ((k : Int) == O.length) = false := beq_eq_false_iff_ne.2 (by omega)
            clear huv
            go_wp2
            go_quiet (fail)
            go_wp2
            exact ⟨⟨i + 1, by omega, by go_num, by rw [HU.out, HO.out]; exact own2, Lib.hid (below_drewN (HB.out.trans (HV.out.mono hle)) _)⟩, by simp [intOf]; omega⟩
          · have hne : (u != v) = true := by simpa using huv
            have HH := Lib.hid (HQ.out huv)
            clear huv
            go_wp2
            go_quiet (fail)
            go_wp2
            exact ⟨⟨k + 1, by omega, by go_num, HH, Lib.hid (below_drewN HV.out _)⟩, by simp [intOf]; omega⟩
        · obtain rfl : k = O.length := by omega
          have hdt : decide ((O.length : Int) < O.length) = false := by simp
          have HO := Lib.hid (uniq_new O v (fun j hj => HN.out j hj hj))
          go_wp2
          go_quiet (fail)
          have own3 : (wr.drewN nq).ownsRow W1.heap.size 3 1 (.slice oa O.length oc) O.length (O.map (Value.int .i64)) := own2
          have x3 : (wr.drewN nq).cell? ⟨b1, o1 + i, none⟩ = some (.int .i64 v) := x2
          have BV := Lib.hid (below_drewN (HB.out.trans (HV.out.mono hle)) nq)
          have hv3 : W1.heap.size ≤ (wr.drewN nq).heap.size := by show _ ≤ wr.heap.size; omega
          clear x2 own2
          generalize wr.drewN nq = w2 at *
          go_wp2_with (at_builtin; refine wpList_append1 rfl (.tmp 37) (.tmp 42) 22 rfl W1.heap.size 3 i0 (.int .i64 0) 8 Try.underlying22 hi hz0 hz1 hz2 rfl _ _ _ rfl own3 _ rfl rfl (by omega) hv3 ?_; intro v' w1 ow bw _ _)
          refine ⟨⟨i + 1, by omega, by go_num, ?_, Lib.hid (BV.out.trans bw)⟩, by simp [intOf]; omega⟩
          rw [HU.out, HO.out, List.length_append, List.map_append]
          exact ow
    · obtain rfl : i = A.length := by omega
      rw [List.take_length] at hown
      obtain ⟨oa, oc, rfl, _⟩ := (SlAt.of_own hown).shape
      go_wp2
      go_ret
      exact ⟨_, _, rfl, SlAt.of_own hown, B1.out.trans (HB.out.mono B1.out.size)⟩
end Go.Proofs.Ytkhiogcdamjocaa
