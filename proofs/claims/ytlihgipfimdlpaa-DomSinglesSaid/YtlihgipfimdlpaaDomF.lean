/-
  dom.Join (slices.Concat, slices.Grow), dom.Has (slices.ContainsFunc), walked.
-/
import Derived.Test.YtlihgipfimdlpaaDomB
import Derived.Test.YtlihgipfimdlpaaLay2
import Derived.Shelf.SlicesQ.IndexFunc
namespace Go.Proofs.Ytlihgipfimdlpaa
open Go.RowKit

/-- slices.Grow of the nil slice: nil, or an own row with room -/
theorem grow_c (n : Nat) (w : World) (hn : n ≤ 4096) :
    Calls Try.prog 71 #[.slice none 0 0, .int .i64 n] w fun e w' => ∃ ao cap, e = .returned (.slice ao 0 cap) ∧ w'.ownsRow w.heap.size 28 2 (.slice ao 0 cap) 0 [] ∧ Below w.heap.size w w' := by
  obtain ⟨i0, hi, hz0, hz1, hz2⟩ := info_parts Try.infoRg
  rcases Nat.eq_zero_or_pos n with rfl | hp
  · have h := Any8.slices_Grow_room Try.growRg none 0 0 0 w (Nat.le_refl _) (by decide) (by decide) (by decide)
    change Calls Try.prog 71 _ _ _ at h
    exact h.mono fun e w' ⟨he, hw⟩ => ⟨none, 0, he, World.ownsRow_nil _ _ _ _, by rw [hw]; exact Below.refl _ _⟩
  · have h := Any8.slices_Grow_grow Try.growRg i0 (.agg #[.int .i64 0, .int .i64 0]) hi hz0 (by omega) none 0 0 n [] w (Nat.le_refl _) (by omega) (by rw [hz2]; omega) (by omega) (by simp) (fun _ => rfl) (fun a ha => by cases ha)
    change Calls Try.prog 71 _ _ _ at h
    refine h.mono fun e w' ⟨he, hw⟩ => ⟨_, _, he, ?_, ?_⟩
    · have g1 := grownCap_ge w (0 + n) 0 (Try.growRg_ren.t 25)
      have g2 := grownCap_le_maxLen w (0 + n) 0 (Try.growRg_ren.t 25) (by simp [maxLen]; omega)
      rw [hw]
      refine World.ownsRow_made w.drew _ _ (Nat.le_refl _) g2 ?_
      have e2 : (Value.agg #[.int .i64 0, .int .i64 0]).cells.size = 2 := rfl
      simp only [Array.size_append, List.size_toArray, List.length_nil, size_zeroCells, e2]
      omega
    · rw [hw]; exact (below_drewN (Below.refl _ _) 1).alloc (Nat.le_refl _) _

set_option maxRecDepth 100000 in
set_option maxHeartbeats 800000 in
theorem concat_c (va vb : Value) (a b : List Rg) (B : Nat) (w : World) (ha : RgAt w va a) (hb : RgAt w vb b) (hla : a.length ≤ 2048) (hlb : b.length ≤ 2048)
    (hc1 : w.cell? ⟨B, 0, none⟩ = some va) (hc2 : w.cell? ⟨B, 1, none⟩ = some vb) :
    Calls Try.prog 53 #[.slice (some ⟨B, 0, none⟩) 2 2] w (RetR (a ++ b) w) := by
  obtain ⟨i0, hi, hz0, hz1, hz2⟩ := info_parts Try.infoRg
  obtain ⟨ao, cap, rfl, hcap1, hcap2⟩ := ha.shape
  obtain ⟨ao2, cap2, rfl, hcap3, hcap4⟩ := hb.shape
  have HA := Lib.hid ha
  have HB := Lib.hid hb
  have HB0 := World.block_lt_of_cell? w _ hc1
  clear ha hb
  go_enter Try.func53, Try.ntmps53
  go_wp2
  go_loop [3, 11] (fun t s => ∃ k : Nat, k ≤ 2 ∧ s = .int .i64 k ∧ t = .int .i64 ((if k = 0 then 0 else if k = 1 then a.length else a.length + b.length : Nat) : Int)) (fun _ s => 2 - (intOf s).toNat)
  case atStart => exact ⟨0, by omega, rfl, rfl⟩
  case round =>
    obtain ⟨k, hk, rfl, rfl⟩ := hrel
    rcases (show k = 0 ∨ k = 1 ∨ k = 2 by omega) with rfl | rfl | rfl
    · rw [if_pos rfl]
      go_wp2
      exact ⟨⟨1, by omega, by go_num, by simp⟩, by simp [intOf]⟩
    · rw [if_neg (by decide), if_pos rfl]
      go_wp2
      exact ⟨⟨2, by omega, by go_num, by simp⟩, by simp [intOf]⟩
    · rw [if_neg (by decide), if_neg (by decide)]
      have CG := grow_c (a.length + b.length) w (by omega)
      rw [Int.natCast_add] at CG
      have CG2 := Lib.hid CG
      clear CG
      go_wp2_with (go_at_call 71; (with_reducible refine CG2.out.mono ?_); rintro e W ⟨ag, cg, rfl, og, bg⟩)
      have HW := Lib.hid bg
      clear bg
      go_loopw [6, 27] (fun o s wr => ∃ k : Nat, ∃ L : List Rg, k ≤ 2 ∧ s = .int .i64 k ∧ L = (if k = 0 then [] else if k = 1 then a else a ++ b) ∧ wr.ownsRow w.heap.size 28 2 o L.length (cellsR L) ∧ Below w.heap.size w wr) (fun _ s _ => 2 - (intOf s).toNat)
      case atStart => exact ⟨0, [], by omega, rfl, rfl, og, HW.out⟩
      case round =>
        obtain ⟨k, L, hk, rfl, hL, hown, hbel⟩ := hrel
        have HB1 := Lib.hid hbel
        have hle := hbel.size
        clear hbel
        have d1 := (HB1.out.cell (p := ⟨B, 0, none⟩) HB0).trans hc1
        have d2 := (HB1.out.cell (p := ⟨B, 1, none⟩) HB0).trans hc2
        rcases (show k = 0 ∨ k = 1 ∨ k = 2 by omega) with rfl | rfl | rfl
        · obtain rfl : L = [] := hL
          go_wp2_with (at_builtin; refine wpList_append_sl rfl (.tmp 31) (.tmp 32) 22 rfl w.heap.size 28 i0 (.agg #[.int .i64 0, .int .i64 0]) 2 16 Try.underlying22 hi hz0 hz1 hz2 rfl (by decide) _ _ _ rfl hown _ _ _ rfl (HA.out.below HB1.out) (cellsR_one _) (by simp; omega) hle ?_; intro v1 w1 o1 b1 g1; clear g1)
          refine ⟨⟨1, a, by omega, rfl, rfl, ?_, HB1.out.trans b1⟩, by simp [intOf]⟩
          rw [show cellsR ([] : List Rg) = [] from rfl, List.nil_append, show ([] : List Rg).length = 0 from rfl, Nat.zero_add] at o1
          exact o1
        · obtain rfl : L = a := hL
          go_wp2_with (at_builtin; refine wpList_append_sl rfl (.tmp 31) (.tmp 32) 22 rfl w.heap.size 28 i0 (.agg #[.int .i64 0, .int .i64 0]) 2 16 Try.underlying22 hi hz0 hz1 hz2 rfl (by decide) _ _ _ rfl hown _ _ _ rfl (HB.out.below HB1.out) (cellsR_one _) (by omega) hle ?_; intro v1 w1 o1 b1 g1; clear g1)
          refine ⟨⟨2, L ++ b, by omega, rfl, rfl, ?_, HB1.out.trans b1⟩, by simp [intOf]⟩
          rw [List.length_append, cellsR_append]
          exact o1
        · obtain rfl : L = a ++ b := hL
          obtain ⟨oa, oc, rfl, _⟩ := (SlAt.of_own hown).shape
          go_wp2
          go_ret
          exact ⟨_, _, rfl, RgAt.own hown, HB1.out⟩

set_option maxRecDepth 100000 in
theorem join_c (va vb : Value) (a b : List Rg) (w : World) (ha : RgAt w va a) (hb : RgAt w vb b) (hla : a.length ≤ 2048) (hlb : b.length ≤ 2048) :
    Calls Try.prog 29 #[va, vb] w (RetR (joinL a b) w) := by
  obtain ⟨ao, cap, rfl, _⟩ := ha.shape
  obtain ⟨ao2, cap2, rfl, _⟩ := hb.shape
  have HA := Lib.hid ha
  have HB := Lib.hid hb
  have CC : Hid (∀ W, RgAt W (.slice ao a.length cap) a → RgAt W (.slice ao2 b.length cap2) b → W.cell? ⟨w.heap.size, 0, none⟩ = some (.slice ao a.length cap) → W.cell? ⟨w.heap.size, 1, none⟩ = some (.slice ao2 b.length cap2) →
      Calls Try.prog 53 #[.slice (some ⟨w.heap.size, 0, none⟩) 2 2] W (RetR (a ++ b) W)) := fun W h1 h2 h3 h4 => concat_c _ _ a b w.heap.size W h1 h2 hla hlb h3 h4
  have CN : Hid (∀ v W, RgAt W v (a ++ b) → Calls Try.prog 27 #[v] W (RetR (joinL a b) W)) := fun v W h => by
    rw [← norm_append]; exact norm_c v _ W h (by rw [List.length_append]; omega)
  clear ha hb
  generalize joinL a b = res at *
  generalize a ++ b = L at *
  go_enter Try.func29, Try.ntmps29
  go_wp2_with (first
    | (go_at_call 53; refine (CC.out _ (SlAt.alloc HA.out _) (SlAt.alloc HB.out _) ?_ ?_).mono ?_; (· simp); (· simp); rintro e W ⟨a1, c1, rfl, r1, b1⟩)
    | (go_at_call 27; refine (CN.out _ _ r1).mono ?_; rintro e W2 ⟨a2, c2, rfl, r2, b2⟩))
  go_ret
  have hb1 : Below w.heap.size w W := ((Below.refl _ _).alloc (Nat.le_refl _) _).trans (b1.mono (by simp))
  exact ⟨_, _, rfl, r2, hb1.trans (b2.mono hb1.size)⟩
end Go.Proofs.Ytlihgipfimdlpaa
