/-
  dom.Has, walked.
-/
import Derived.Test.YtlihgipfimdlpaaDomB
import Derived.Shelf.SlicesQ.IndexFunc
import Derived.Lib.SliceRun
namespace Go.Proofs.Ytlihgipfimdlpaa
open Go.RowKit

/-- slices.ContainsFunc of no element -/
theorem contains_none (p : Option Addr) (cap : Nat) (fv : Value) (w : World) :
    Calls Try.prog 48 #[.slice p 0 cap, fv] w fun e w' => e = .returned (.bool false) ∧ w = w' := by
  have CI : Hid (Calls Try.prog 67 #[.slice p 0 cap, fv] w fun e w' => e = .returned (.int .i64 (-1)) ∧ w = w') := by
    show Calls _ _ _ _ _
    go_enter Try.func67, Try.ntmps67
    go_wp2
    go_loopw [8] (fun s wr => s = .int .i64 0 ∧ wr = w) (fun _ _ => 0)
    case atStart => exact ⟨rfl, rfl⟩
    case round =>
      obtain ⟨rfl, rfl⟩ := hrel
      go_wp2
      go_ret
      exact ⟨rfl, rfl⟩
  go_enter Try.func48, Try.ntmps48
  go_wp2_with (go_at_call 67; (with_reducible refine CI.out.mono ?_); rintro e w' ⟨rfl, rfl⟩)
  go_ret
  exact ⟨rfl, rfl⟩

set_option maxRecDepth 100000 in
theorem hasFn_c (n : Int) (B : Nat) (w : World) (hB : B < w.heap.size) (hcell : w.cell? ⟨B, 0, none⟩ = some (.int .i64 n)) :
    Go.Proofs.PredBelow Try.prog 49 #[.pointer (some ⟨B, 0, none⟩)] (fun x => .agg (encR x).toArray) (fun x => decide (x.1 ≤ n) && decide (n ≤ x.2)) w := fun W x hb => by
  have hc : W.cell? ⟨B, 0, none⟩ = some (.int .i64 n) := (hb.cell (p := ⟨B, 0, none⟩) hB).trans hcell
  have hBW : B < W.heap.size := Nat.lt_of_lt_of_le hB hb.size
  have hne : B ≠ W.heap.size := by omega
  show Calls Try.prog 49 #[.agg #[.int .i64 x.1, .int .i64 x.2], .pointer (some ⟨B, 0, none⟩)] W _
  by_cases h1 : x.1 ≤ n
  · by_cases h2 : n ≤ x.2
    all_goals
      go_enter Try.func49, Try.ntmps49
      go_wp2
      all_goals (go_ret; exact ⟨ret_bool (by simp [h1, h2]), hb.alloc hb.size _⟩)
  · go_enter Try.func49, Try.ntmps49
    go_wp2
    all_goals (go_ret; exact ⟨ret_bool (by simp; omega), hb.alloc hb.size _⟩)

set_option maxRecDepth 100000 in
set_option maxHeartbeats 800000 in
theorem has_c (va : Value) (a : List Rg) (n : Int) (w : World) (ha : RgAt w va a) (hla : a.length ≤ 4096) :
    Calls Try.prog 23 #[va, .int .i64 n] w fun e w' => e = .returned (.bool (inD n && memL a n)) ∧ Below w.heap.size w w' := by
  obtain ⟨ao, cap, rfl, _⟩ := ha.shape
  by_cases h1 : n < -200
  · go_enter Try.func23, Try.ntmps23
    go_wp2
    go_ret
    exact ⟨ret_bool (by symm; simp [inD]; omega), (Below.refl _ _).alloc (Nat.le_refl _) _⟩
  by_cases h2 : 200 < n
  · go_enter Try.func23, Try.ntmps23
    go_wp2
    go_ret
    exact ⟨ret_bool (by symm; simp [inD]; omega), (Below.refl _ _).alloc (Nat.le_refl _) _⟩
  have HI : Hid ((inD n && memL a n) = memL a n) := by show _ = _; simp [inD, show -200 ≤ n by omega, show n ≤ 200 by omega]
  rw [HI.out]
  clear HI
  have eg : ∀ args w, (callFunc 49 args).run Try.prog w = .ok (.enter 49 args) w := enters_of Try.func49 (by kernel_rfl) rfl
  have CC : Hid (∀ T, Calls Try.prog 48 #[.slice ao a.length cap, .func (.func 49) #[] #[.pointer (some ⟨w.heap.size, 0, none⟩)]] (w.alloc (.cells #[.int .i64 n] T)) fun e w' =>
      e = .returned (.bool (memL a n)) ∧ Below w.heap.size (w.alloc (.cells #[.int .i64 n] T)) w') := fun T => by
    have hb0 : Below w.heap.size w (w.alloc (.cells #[.int .i64 n] T)) := (Below.refl _ _).alloc (Nat.le_refl _) _
    rcases Nat.eq_zero_or_pos a.length with h0 | h0
    · obtain rfl := List.eq_nil_of_length_eq_zero h0
      exact (contains_none ao cap _ _).mono fun e w' ⟨he, hw⟩ => ⟨he, by rw [← hw]; exact Below.refl _ _⟩
    · obtain ⟨b, off, c', he, hcap, hbs, hc⟩ := RgAt.at (ha.below hb0) h0
      simp only [Value.slice.injEq, true_and] at he
      obtain ⟨rfl, rfl⟩ := he
      have hcon := AnyQ.slices_ContainsFunc Try.contRg 2 Try.isAgg28 Try.sizeOf28 encR (fun _ => rfl) (fun x => decide (x.1 ≤ n) && decide (n ≤ x.2)) 49 #[.pointer (some ⟨w.heap.size, 0, none⟩)] eg b off a.length cap a
        (w.alloc (.cells #[.int .i64 n] T)) (hasFn_c n w.heap.size _ (by simp) (by simp)) (Nat.le_refl _) (by omega) hbs (fun j hj i v hi => by
          obtain ⟨e1, e2⟩ := hc j hj
          rw [getElem!_pos a j hj] at hi
          match i, hi with
          | 0, hi => simp [encR] at hi; rw [← hi]; exact e1
          | 1, hi => simp [encR] at hi; rw [← hi]; exact e2
          | i + 2, hi => simp [encR] at hi)
      change Calls Try.prog 48 _ _ _ at hcon
      rw [List.take_length] at hcon
      exact hcon.mono fun e w' ⟨he, hb⟩ => ⟨he, hb.mono (by simp)⟩
  clear ha eg
  generalize memL a n = r at *
  go_enter Try.func23, Try.ntmps23
  go_wp2_with (go_at_call 48; (with_reducible refine (CC.out _).mono ?_); rintro e W ⟨rfl, hb⟩)
  go_ret
  exact ⟨rfl, ((Below.refl _ _).alloc (Nat.le_refl _) _).trans hb⟩
end Go.Proofs.Ytlihgipfimdlpaa
