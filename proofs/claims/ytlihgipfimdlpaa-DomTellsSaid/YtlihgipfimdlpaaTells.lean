/-
  The law DomTells, walked.
-/
import Derived.Test.YtlihgipfimdlpaaHas
import Derived.Test.YtlihgipfimdlpaaRefC
import Derived.Test.YtlihgipfimdlpaaPl5
namespace Go.Proofs.Ytlihgipfimdlpaa
open Go.RowKit

theorem ends_has (a : List Rg) : (inD (endsL (norm a)).1 && memL a (endsL (norm a)).1) = (endsL (norm a)).2.2 := by
  rw [← memL_norm]
  have hb := norm_bounds a
  generalize norm a = L at *
  cases L with
  | nil => rfl
  | cons r L =>
    have := hb r (by simp)
    show memL (r :: L) r.1 = true
    rw [memL_cons]; simp; left; omega

set_option maxRecDepth 100000 in
set_option maxHeartbeats 1600000 in
theorem domTells_any (va : Value) (a : List Rg) (n : Int) (w : World) (ha : RgAt w va a) (hn : -9223372036854775808 ≤ n ∧ n ≤ 9223372036854775807) :
    Calls Try.prog 6 #[va, .int .i64 n] w fun e w' => e = .returned (.bool true) ∧ Below w.heap.size w w' := by
  obtain ⟨ao, cap, rfl, _⟩ := ha.shape
  have CM : Hid (Calls Try.prog 11 #[.slice ao a.length cap, .slice none 0 0] w fun e w' => e = .returned (.bool (decide (100 < a.length) || decide (100 < ([] : List Rg).length))) ∧ w = w') := many_c _ _ a [] w ha RgAt.nil
  by_cases h1 : 100 < a.length
  · rw [show (decide (100 < a.length) || decide (100 < ([] : List Rg).length)) = true by simp [h1]] at CM
    go_enter Try.func6, Try.ntmps6
    go_wp2_with (go_at_call 11; (with_reducible refine CM.out.mono ?_); rintro e w' ⟨rfl, rfl⟩)
    go_ret
    exact ⟨rfl, Below.refl _ _⟩
  rw [show (decide (100 < a.length) || decide (100 < ([] : List Rg).length)) = false by simp; omega] at CM
  have hla : a.length ≤ 4096 := by omega
  have C1 : Hid (∀ W, Below w.heap.size w W → Calls Try.prog 21 #[.slice ao a.length cap] W fun e w' => e = .returned (endV (norm a)) ∧ Below W.heap.size W w') := fun W h => ends_c _ a W (ha.below h) hla
  have C2 : Hid (∀ W, Below w.heap.size w W → Calls Try.prog 24 #[.slice ao a.length cap] W fun e w' => e = .returned (endV (norm a)) ∧ Below W.heap.size W w') := fun W h => refEnds_c _ a W (ha.below h) hla
  have C3 : Hid (∀ W, Below w.heap.size w W → Calls Try.prog 22 #[.slice ao a.length cap, .int .i64 n] W fun e w' => e = .returned (atV (if n < 0 then none else atL (norm a) n)) ∧ Below W.heap.size W w') := fun W h => at_c _ a n W (ha.below h) hla hn
  have C4 : Hid (∀ W, Below w.heap.size w W → Calls Try.prog 25 #[.slice ao a.length cap, .int .i64 n] W fun e w' => e = .returned (atV (if n < 0 then none else atL (norm a) n)) ∧ W = w') := fun W h => refAt_c _ a n W (ha.below h) hla hn
  have C5 : Hid (∀ W, Below w.heap.size w W → Calls Try.prog 23 #[.slice ao a.length cap, .int .i64 n] W fun e w' => e = .returned (.bool (inD n && memL a n)) ∧ Below W.heap.size W w') := fun W h => has_c _ a n W (ha.below h) hla
  have C6 : Hid (∀ W, Below w.heap.size w W → Calls Try.prog 26 #[.slice ao a.length cap, .int .i64 n] W fun e w' => e = .returned (.bool (inD n && memL a n)) ∧ W = w') := fun W h => refHas_c _ a n W (ha.below h) hla
  have C7 : Hid (∀ W, Below w.heap.size w W → Calls Try.prog 19 #[.slice ao a.length cap] W fun e w' => e = .returned (.int .i64 (sizeL (norm a))) ∧ Below W.heap.size W w') := fun W h => size_c _ a W (ha.below h) hla
  have C8 : Hid (∀ W, Below w.heap.size w W → Calls Try.prog 20 #[.slice ao a.length cap] W fun e w' => e = .returned (.int .i64 (sizeL (norm a))) ∧ Below W.heap.size W w') := fun W h => refSize_c _ a W (ha.below h) hla
  have C9 : Hid (∀ W, Below w.heap.size w W → Calls Try.prog 23 #[.slice ao a.length cap, .int .i64 (endsL (norm a)).1] W fun e w' => e = .returned (.bool (endsL (norm a)).2.2) ∧ Below W.heap.size W w') := fun W h => by have := has_c _ a (endsL (norm a)).1 W (ha.below h) hla; rwa [ends_has] at this
  clear ha
  have hE : endV (norm a) = .tuple #[.int .i64 (endsL (norm a)).1, .int .i64 (endsL (norm a)).2.1, .bool (endsL (norm a)).2.2] := rfl
  rw [hE] at C1 C2
  clear hE
  generalize (endsL (norm a)).1 = lo at *
  generalize (endsL (norm a)).2.1 = hi at *
  generalize (endsL (norm a)).2.2 = is at *
  generalize (inD n && memL a n) = has at *
  generalize sizeL (norm a) = sz at *
  have hA : ∀ o : Option Int, ∃ v ok, atV o = .tuple #[.int .i64 v, .bool ok] := fun o => by cases o <;> exact ⟨_, _, rfl⟩
  obtain ⟨v, ok, hv⟩ := hA (if n < 0 then none else atL (norm a) n)
  rw [hv] at C3 C4
  clear hv hA
  have B0 : Hid (Below w.heap.size w w) := Below.refl _ _
  cases is <;> cases has <;> cases ok
  all_goals
    go_enter Try.func6, Try.ntmps6
    go_wp2_with (first
    | (go_at_call 11; (with_reducible refine CM.out.mono ?_); rintro e w' ⟨rfl, rfl⟩)
    | (go_at_call 21; (with_reducible refine (C1.out _ B0.out).mono ?_); rintro e W0v ⟨rfl, bb⟩; have B1 := Lib.hid (B0.out.trans (bb.mono B0.out.size)); clear bb)
    | (go_at_call 24; (with_reducible refine (C2.out _ B1.out).mono ?_); rintro e W1v ⟨rfl, bb⟩; have B2 := Lib.hid (B1.out.trans (bb.mono B1.out.size)); clear bb)
    | (go_at_call 22; (with_reducible refine (C3.out _ B2.out).mono ?_); rintro e W2v ⟨rfl, bb⟩; have B3 := Lib.hid (B2.out.trans (bb.mono B2.out.size)); clear bb)
    | (go_at_call 25; (with_reducible refine (C4.out _ B3.out).mono ?_); rintro e w' ⟨rfl, rfl⟩; have B4 := B3)
    | (go_at_call 23; (with_reducible refine (C5.out _ B4.out).mono ?_); rintro e W4v ⟨rfl, bb⟩; have B5 := Lib.hid (B4.out.trans (bb.mono B4.out.size)); clear bb)
    | (go_at_call 26; (with_reducible refine (C6.out _ B5.out).mono ?_); rintro e w' ⟨rfl, rfl⟩; have B6 := B5)
    | (go_at_call 19; (with_reducible refine (C7.out _ B6.out).mono ?_); rintro e W6v ⟨rfl, bb⟩; have B7 := Lib.hid (B6.out.trans (bb.mono B6.out.size)); clear bb)
    | (go_at_call 20; (with_reducible refine (C8.out _ B7.out).mono ?_); rintro e W7v ⟨rfl, bb⟩; have B8 := Lib.hid (B7.out.trans (bb.mono B7.out.size)); clear bb)
    | (go_at_call 23; (with_reducible refine (C9.out _ B8.out).mono ?_); rintro e W8v ⟨rfl, bb⟩; have B9 := Lib.hid (B8.out.trans (bb.mono B8.out.size)); clear bb))
    go_ret
    exact ⟨rfl, B9.out⟩
end Go.Proofs.Ytlihgipfimdlpaa
