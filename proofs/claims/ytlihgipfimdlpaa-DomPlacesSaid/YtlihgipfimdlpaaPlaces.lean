/-
  The law DomPlaces, walked.
-/
import Derived.Test.YtlihgipfimdlpaaHas
import Derived.Test.YtlihgipfimdlpaaRefC
import Derived.Test.YtlihgipfimdlpaaPl5
namespace Go.Proofs.Ytlihgipfimdlpaa
open Go.RowKit

theorem cases_first {k : Nat} {N : Int} {P : Int → Option Int} {lo lz v : Int} (hk : k = 0 → lz = -201) (hp : 0 < k → P ((k : Int) - 1) = some lz) (hv : P k = some v) (hv2 : -200 ≤ v)
    (S : Int → Bool) (HN : ∀ i v v', 0 ≤ i → P i = some v → P (i + 1) = some v' → v < v' ∧ ∀ k, v < k → k < v' → S k = false) (HF : ∀ v, P 0 = some v → ∀ k, -200 ≤ k → k < v → S k = false) :
    lz < v ∧ ∀ z, lz < z → z < v → S z = false := by
  rcases Nat.eq_zero_or_pos k with h | h
  · subst h
    rw [hk rfl]
    exact ⟨by omega, fun z h1 h2 => HF v hv z (by omega) h2⟩
  · have h1 := hp h
    exact HN ((k : Int) - 1) lz v (by omega) h1 (by rw [show (k : Int) - 1 + 1 = k by omega]; exact hv)

set_option maxRecDepth 100000 in
set_option maxHeartbeats 1600000 in
theorem domPlaces_any (va : Value) (a : List Rg) (w : World) (ha : RgAt w va a) :
    Calls Try.prog 5 #[va] w fun e w' => e = .returned (.bool true) ∧ Below w.heap.size w w' := by
  obtain ⟨ao, cap, rfl, _⟩ := ha.shape
  have CM : Hid (Calls Try.prog 11 #[.slice ao a.length cap, .slice none 0 0] w fun e w' => e = .returned (.bool (decide (100 < a.length) || decide (100 < ([] : List Rg).length))) ∧ w = w') := many_c _ _ a [] w ha RgAt.nil
  by_cases h1 : 100 < a.length
  · rw [show (decide (100 < a.length) || decide (100 < ([] : List Rg).length)) = true by simp [h1]] at CM
    go_enter Try.func5, Try.ntmps5
    go_wp2_with (go_at_call 11; (with_reducible refine CM.out.mono ?_); rintro e w' ⟨rfl, rfl⟩)
    go_ret
    exact ⟨rfl, Below.refl _ _⟩
  rw [show (decide (100 < a.length) || decide (100 < ([] : List Rg).length)) = false by simp; omega] at CM
  have hla : a.length ≤ 4096 := by omega
  have HP : Hid (∀ i, 0 ≤ i → i < sizeL (norm a) → ∃ v, placeS (memL a) i = some v ∧ -200 ≤ v ∧ v ≤ 200 ∧ memL a v = true) := fun i => placeS_in (memL a) i
  have HN : Hid (∀ i v v', 0 ≤ i → placeS (memL a) i = some v → placeS (memL a) (i + 1) = some v' → v < v' ∧ ∀ k, v < k → k < v' → memL a k = false) := fun i v v' => placeS_next (memL a) i v v'
  have HF : Hid (∀ v, placeS (memL a) 0 = some v → ∀ k, -200 ≤ k → k < v → memL a k = false) := fun v => placeS_first (memL a) v
  obtain ⟨he1, he2⟩ := ends_place (memL a)
  have HL : Hid (0 < sizeL (norm a) → placeS (memL a) 0 = some (endsL (norm a)).1 ∧ placeS (memL a) (sizeL (norm a) - 1) = some (endsL (norm a)).2.1) := he2
  have HE : (endsL (norm a)).2.2 = decide (0 < sizeL (norm a)) := he1
  clear he1 he2
  have HO : placeS (memL a) (sizeL (norm a)) = none := placeS_out _ _ (Int.le_refl _)
  have HO' := Lib.hid HO
  have HM : Hid (placeS (memL a) (-1) = none) := placeS_neg _ _ (by decide)
  clear HO
  have hb : 0 ≤ sizeL (norm a) ∧ sizeL (norm a) ≤ 401 := by unfold norm; rw [sizeL_canon]; exact cnt_nonneg _ 401 (-200)
  obtain ⟨hb1, hb2⟩ := hb
  have C1 : Hid (∀ W, Below w.heap.size w W → Calls Try.prog 19 #[.slice ao a.length cap] W fun e w' => e = .returned (.int .i64 (sizeL (norm a))) ∧ Below W.heap.size W w') := fun W h => size_c _ a W (ha.below h) hla
  have C2 : Hid (∀ W, Below w.heap.size w W → Calls Try.prog 20 #[.slice ao a.length cap] W fun e w' => e = .returned (.int .i64 (sizeL (norm a))) ∧ Below W.heap.size W w') := fun W h => refSize_c _ a W (ha.below h) hla
  have C3 : Hid (∀ W, Below w.heap.size w W → Calls Try.prog 21 #[.slice ao a.length cap] W fun e w' => e = .returned (.tuple #[.int .i64 (endsL (norm a)).1, .int .i64 (endsL (norm a)).2.1, .bool (endsL (norm a)).2.2]) ∧ Below W.heap.size W w') := fun W h => ends_c _ a W (ha.below h) hla
  have CA : Hid (∀ i : Int, -1 ≤ i → i ≤ 401 → ∀ W, Below w.heap.size w W → Calls Try.prog 22 #[.slice ao a.length cap, .int .i64 i] W fun e w' => e = .returned (atV (placeS (memL a) i)) ∧ Below W.heap.size W w') := fun i h1 h2 W h => at_c _ a i W (ha.below h) hla (by omega)
  have CH : Hid (∀ (i : Int) W, Below w.heap.size w W → Calls Try.prog 23 #[.slice ao a.length cap, .int .i64 i] W fun e w' => e = .returned (.bool (inD i && memL a i)) ∧ Below W.heap.size W w') := fun i W h => has_c _ a i W (ha.below h) hla
  rw [HE] at C3
  clear ha HE
  generalize (endsL (norm a)).1 = lo at *
  generalize (endsL (norm a)).2.1 = hi at *
  generalize sizeL (norm a) = N at *
  generalize placeS (memL a) = P at *
  have B0 : Hid (Below w.heap.size w w) := Below.refl _ _
  go_enter Try.func5, Try.ntmps5
  go_wp2_with (first
    | (go_at_call 11; (with_reducible refine CM.out.mono ?_); rintro e w' ⟨rfl, rfl⟩)
    | (go_at_call 19; (with_reducible refine (C1.out _ B0.out).mono ?_); rintro e W0v ⟨rfl, bb⟩; have B1 := Lib.hid (B0.out.trans (bb.mono B0.out.size)); clear bb)
    | (go_at_call 20; (with_reducible refine (C2.out _ B1.out).mono ?_); rintro e W1v ⟨rfl, bb⟩; have B2 := Lib.hid (B1.out.trans (bb.mono B1.out.size)); clear bb)
    | (go_at_call 21; (with_reducible refine (C3.out _ B2.out).mono ?_); rintro e W2v ⟨rfl, bb⟩; have B3 := Lib.hid (B2.out.trans (bb.mono B2.out.size)); clear bb))
  go_loopw [7, 8] (fun l s wr => ∃ k : Nat, ∃ lz : Int, (k : Int) ≤ N ∧ s = .int .i64 k ∧ l = .int .i64 lz ∧ -201 ≤ lz ∧ lz ≤ 200 ∧ Hid (k = 0 → lz = -201) ∧ Hid (0 < k → P ((k : Int) - 1) = some lz) ∧ Below w.heap.size w wr) (fun _ s _ => 402 - (intOf s).toNat)
  case atStart => exact ⟨0, -201, by omega, rfl, rfl, by omega, by omega, fun _ => rfl, fun h => by omega, B3.out⟩
  case round =>
    obtain ⟨k, lz, hkN, rfl, rfl, hz1, hz2, Hk, Hp, hbel⟩ := hrel
    have B4 := Lib.hid hbel
    clear hbel
    by_cases hgo : (k : Int) < N ∧ k < 300
    · obtain ⟨hgo1, hgo2⟩ := hgo
      obtain ⟨v, hv, hv1, hv2, hvS⟩ := HP.out k (by omega) hgo1
      obtain ⟨hlt, HZ'⟩ := cases_first (N := N) (lo := lo) Hk.out Hp.out hv hv1 (memL a) HN.out HF.out
      have HZ := Lib.hid HZ'
      clear HZ'
      have CAk : Hid (∀ W, Below w.heap.size w W → Calls Try.prog 22 #[.slice ao a.length cap, .int .i64 k] W fun e w' => e = .returned (.tuple #[.int .i64 v, .bool true]) ∧ Below W.heap.size W w') := fun W h => by
        have := CA.out k (by omega) (by omega) W h
        rw [hv] at this; exact this
      have CHv := Lib.hid (CH.out v)
      rw [hvS, show inD v = true by simp [inD]; omega] at CHv
      have HV := Lib.hid hv
      have hlo : ((k : Int) == 0) = true → v = lo := fun h => by
        have hk0 : (k : Int) = 0 := by simpa using h
        have := (HL.out (by omega)).1
        rw [hk0] at hv
        rw [hv] at this
        exact Option.some.inj this
      have HK : Hid (((k : Int) == 0) = false ∨ v = lo) := by
        show _ ∨ _
        cases h : ((k : Int) == 0) with
        | false => exact .inl rfl
        | true => exact .inr (hlo h)
      clear hv hlo hvS
      rcases HK.out with hk0 | rfl
      all_goals
        go_wp2_with (first
          | (go_at_call 22; (with_reducible refine (CAk.out _ B4.out).mono ?_); rintro e W4v ⟨rfl, bb⟩; have B5 := Lib.hid (B4.out.trans (bb.mono B4.out.size)); clear bb)
          | (go_at_call 23; (with_reducible refine (CHv.out _ B5.out).mono ?_); rintro e W5v ⟨rfl, bb⟩; have B6 := Lib.hid (B5.out.trans (bb.mono B5.out.size)); clear bb))
        all_goals
          go_loopw [11] (fun s wr => ∃ z : Int, s = .int .i64 z ∧ lz < z ∧ z ≤ v ∧ Below w.heap.size w wr) (fun s _ => (v - intOf s).toNat)
          case atStart => exact ⟨lz + 1, rfl, by omega, by omega, B6.out⟩
          case round =>
            obtain ⟨z, rfl, hzl, hzv, hbel⟩ := hrel
            have B7 := Lib.hid hbel
            clear hbel
            by_cases hz : z < v ∧ k < 20
            · obtain ⟨hz3, hz4⟩ := hz
              have CHz := Lib.hid (CH.out z)
              rw [HZ.out z hzl hz3, Bool.and_false] at CHz
              go_wp2_with (go_at_call 23; (with_reducible refine (CHz.out _ B7.out).mono ?_); rintro e W7v ⟨rfl, bb⟩; have B8 := Lib.hid (B7.out.trans (bb.mono B7.out.size)); clear bb)
              exact ⟨⟨z + 1, rfl, by omega, by omega, B8.out⟩, by simp [intOf]; omega⟩
            · by_cases hz3 : z < v
              all_goals
                go_wp2
              all_goals
                exact ⟨⟨k + 1, v, by omega, by go_num, rfl, by omega, by omega, fun h => by omega, fun _ => by rw [show (((k + 1 : Nat) : Int) - 1) = k by push_cast; omega]; exact HV.out, B7.out⟩, by simp [intOf]; omega⟩
    · have CAn : Hid (∀ W, Below w.heap.size w W → Calls Try.prog 22 #[.slice ao a.length cap, .int .i64 N] W fun e w' => e = .returned (.tuple #[.int .i64 0, .bool false]) ∧ Below W.heap.size W w') := fun W h => by
        have := CA.out N (by omega) (by omega) W h
        rw [HO'.out] at this; exact this
      have CAm : Hid (∀ W, Below w.heap.size w W → Calls Try.prog 22 #[.slice ao a.length cap, .int .i64 (-1)] W fun e w' => e = .returned (.tuple #[.int .i64 0, .bool false]) ∧ Below W.heap.size W w') := fun W h => by
        have := CA.out (-1) (by omega) (by omega) W h
        rw [HM.out] at this; exact this
      by_cases hN : 0 < N
      · have CAl : Hid (∀ W, Below w.heap.size w W → Calls Try.prog 22 #[.slice ao a.length cap, .int .i64 (N - 1)] W fun e w' => e = .returned (.tuple #[.int .i64 hi, .bool true]) ∧ Below W.heap.size W w') := fun W h => by
          have := CA.out (N - 1) (by omega) (by omega) W h
          rw [(HL.out hN).2] at this; exact this
        by_cases hkN2 : (k : Int) < N
        all_goals
          go_wp2_with (first
            | (go_at_call 22; (with_reducible refine (CAl.out _ B4.out).mono ?_); rintro e W5v ⟨rfl, bb⟩; have B5 := Lib.hid (B4.out.trans (bb.mono B4.out.size)); clear bb)
            | (go_at_call 22; (with_reducible refine (CAn.out _ B5.out).mono ?_); rintro e W6v ⟨rfl, bb⟩; have B6 := Lib.hid (B5.out.trans (bb.mono B5.out.size)); clear bb)
            | (go_at_call 22; (with_reducible refine (CAm.out _ B6.out).mono ?_); rintro e W7v ⟨rfl, bb⟩; have B7 := Lib.hid (B6.out.trans (bb.mono B6.out.size)); clear bb))
          go_ret
          exact ⟨rfl, B7.out⟩
      · go_wp2_with (first
          | (go_at_call 22; (with_reducible refine (CAn.out _ B4.out).mono ?_); rintro e W6v ⟨rfl, bb⟩; have B6 := Lib.hid (B4.out.trans (bb.mono B4.out.size)); clear bb)
          | (go_at_call 22; (with_reducible refine (CAm.out _ B6.out).mono ?_); rintro e W7v ⟨rfl, bb⟩; have B7 := Lib.hid (B6.out.trans (bb.mono B6.out.size)); clear bb))
        go_ret
        exact ⟨ret_bool (by simp [hN]), B7.out⟩
end Go.Proofs.Ytlihgipfimdlpaa
