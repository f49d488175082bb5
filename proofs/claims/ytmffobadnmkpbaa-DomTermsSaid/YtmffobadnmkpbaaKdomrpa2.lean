/-
  coneyref14.Has, .list, walked.
  coneyref14.normal, .Norm, .Meet, .Join, .Minus, .Compl, walked.
-/
import Derived.Test.YtmffobadnmkpbaaKdomrpa1
import Derived.Test.YtmffobadnmkpbaaKdom1
namespace Go.Proofs.Ytmffobadnmkpbaa
open Go.RowKit

set_option maxRecDepth 100000 in
set_option maxHeartbeats 800000 in
theorem refHas_c (va : Value) (a : List Rg) (n : Int) (w : World) (ha : RgAt w va a) (hla : a.length ≤ 4096) :
    Calls Try.prog 121 #[va, .int .i64 n] w fun e w' => e = .returned (.bool (inD n && memL a n)) ∧ w = w' := by
  obtain ⟨ao, cap, rfl, _⟩ := ha.shape
  have HA := Lib.hid ha
  clear ha
  by_cases h1 : n < -200
  · go_enter Try.func121, Try.ntmps121
    go_wp2
    go_ret
    exact ⟨ret_bool (by symm; simp [inD]; omega), rfl⟩
  by_cases h2 : 200 < n
  · go_enter Try.func121, Try.ntmps121
    go_wp2
    go_ret
    exact ⟨ret_bool (by symm; simp [inD]; omega), rfl⟩
  have HI : Hid ((inD n && memL a n) = memL a n) := by show _ = _; simp [inD, show -200 ≤ n by omega, show n ≤ 200 by omega]
  rw [HI.out]
  clear HI
  go_enter Try.func121, Try.ntmps121
  go_wp2
  go_loop [5] (fun s => ∃ k : Nat, k ≤ a.length ∧ s = .int .i64 k ∧ memL a n = memL (a.drop k) n) (fun s => a.length - (intOf s).toNat)
  case atStart => exact ⟨0, by omega, rfl, rfl⟩
  case round =>
    obtain ⟨k, hk, rfl, hE⟩ := hrel
    by_cases hlt : k < a.length
    · obtain ⟨b, off, c', he, hcap, hbs, hc⟩ := RgAt.at HA.out (by omega)
      simp only [Value.slice.injEq, true_and] at he
      obtain ⟨rfl, rfl⟩ := he
      obtain ⟨c1, c2⟩ := hc k hlt
      rw [List.drop_eq_getElem_cons hlt, memL_cons] at hE
      obtain ⟨r, hr⟩ : ∃ r, r = a[k] := ⟨_, rfl⟩
      rw [← hr] at c1 c2 hE
      have HE := Lib.hid hE
      clear hc hr hE
      by_cases hx : r.1 ≤ n
      · by_cases hy : n ≤ r.2
        · go_wp2
          go_ret
          exact ⟨ret_bool (by rw [HE.out]; simp [hx, hy]), rfl⟩
        · go_wp2
          exact ⟨⟨k + 1, by omega, by go_num, by rw [HE.out]; simp [hx, hy]⟩, by simp [intOf]; omega⟩
      · go_wp2
        exact ⟨⟨k + 1, by omega, by go_num, by rw [HE.out]; simp [hx]⟩, by simp [intOf]; omega⟩
    · obtain rfl : k = a.length := by omega
      rw [List.drop_length, memL_nil] at hE
      have HE := Lib.hid hE
      clear hE
      go_wp2
      go_ret
      exact ⟨ret_bool (by rw [HE.out]), rfl⟩

/-- the ways in which two sets are joined -/
def wayS (way : Int) (a b : List Rg) (n : Int) : Bool :=
  (decide (way = 1) && memL a n && memL b n) || (decide (way = 2) && (memL a n || memL b n)) || (decide (way = 3) && memL a n && !memL b n)

set_option maxRecDepth 100000 in
set_option maxHeartbeats 3200000 in
theorem list_n (va vb : Value) (a b : List Rg) (way : Int) (hway : way = 1 ∨ way = 2 ∨ way = 3) (w : World) (ha : RgAt w va a) (hb : RgAt w vb b) (hla : a.length ≤ 4096) (hlb : b.length ≤ 4096) :
    Calls Try.prog 99 #[va, vb, .int .i64 way] w (RetN (canon (wayS way a b)) w) := by
  obtain ⟨i0, hi, hz0, hz1, hz2⟩ := info_parts Try.infoRg
  obtain ⟨ao, cap, rfl, _⟩ := ha.shape
  obtain ⟨ao2, cap2, rfl, _⟩ := hb.shape
  have CA : Hid (∀ n W, Below w.heap.size w W → Calls Try.prog 121 #[.slice ao a.length cap, .int .i64 n] W fun e w' => e = .returned (.bool (inD n && memL a n)) ∧ W = w') := fun n W h => refHas_c _ a n W (ha.below h) hla
  have CB : Hid (∀ n W, Below w.heap.size w W → Calls Try.prog 121 #[.slice ao2 b.length cap2, .int .i64 n] W fun e w' => e = .returned (.bool (inD n && memL b n)) ∧ W = w') := fun n W h => refHas_c _ b n W (hb.below h) hlb
  have HC : Hid ((accL (wayS way a b) 401).1 = canon (wayS way a b)) := accL_canon _
  have hln : (canon (wayS way a b)).length ≤ 201 := canon_len _
  have HL : Hid (∀ k, k ≤ 401 → (accL (wayS way a b) k).1.length ≤ 201) := fun k h => accL_len _ k h
  have HS : Hid (∀ k, accL (wayS way a b) (k + 1) = if wayS way a b ((k : Int) - 200) = true then
      (if (accL (wayS way a b) k).2 = true then setTop (accL (wayS way a b) k).1 ((k : Int) - 200) else (accL (wayS way a b) k).1 ++ [((k : Int) - 200, (k : Int) - 200)], true)
    else ((accL (wayS way a b) k).1, false)) := fun k => rfl
  have HO : Hid (∀ k, k ≤ 401 → (accL (wayS way a b) k).2 = true → ∃ M p, (accL (wayS way a b) k).1 = M ++ [p]) := fun k h h2 => by
    obtain ⟨M, p, h3, _⟩ := (accL_ok (wayS way a b) k h).2.2.1 h2
    exact ⟨M, p, h3⟩
  clear ha hb
  have H0 : accL (wayS way a b) 0 = ([], false) := rfl
  have HW : Hid (∀ n, wayS way a b n = ((decide (way = 1) && memL a n && memL b n) || (decide (way = 2) && (memL a n || memL b n)) || (decide (way = 3) && memL a n && !memL b n))) := fun n => rfl
  generalize wayS way a b = S at *
  generalize hme : canon S = me at HC hln ⊢
  clear hme
  go_enter Try.func99, Try.ntmps99
  go_wp2
  go_loopw [7, 8, 9] (fun o op s wr => ∃ k : Nat, k ≤ 401 ∧ s = .int .i64 ((k : Int) - 200) ∧ op = .bool (accL S k).2 ∧ wr.ownsRow w.heap.size 107 2 o (accL S k).1.length (cellsR (accL S k).1) ∧ Below w.heap.size w wr) (fun _ _ s _ => (201 - intOf s).toNat)
  case atStart =>
    refine ⟨0, by omega, rfl, by rw [H0], ?_, (Below.refl _ _).alloc (Nat.le_refl _) _⟩
    rw [H0]
    exact World.ownsRow_made w #[] 0 (Nat.le_refl _) (by decide) rfl
  case round =>
    obtain ⟨k, hk, rfl, rfl, hown, hbel⟩ := hrel
    have HB := Lib.hid hbel
    have hle := hbel.size
    have hOl := HL.out k hk
    by_cases hlt : k < 401
    · have hS1 := HS.out k
      have hO1 := HO.out k hk
      have hL1 := HL.out (k + 1) (by omega)
      clear hbel
      have CA2 := Lib.hid (CA.out ((k : Int) - 200) wr HB.out)
      have CB2 := Lib.hid (CB.out ((k : Int) - 200) wr HB.out)
      have hin : inD ((k : Int) - 200) = true := by simp [inD]; omega
      rw [HW.out] at hS1
      rw [hin, Bool.true_and] at CA2 CB2
      generalize accL S k = st at *
      obtain ⟨O, op⟩ := st
      generalize hn : (k : Int) - 200 = n at *
      generalize memL a n = xa at *
      generalize memL b n = xb at *
      have HO1 := Lib.hid hO1
      clear hO1
      have hM : (201 - (n + 1)).toNat < (201 - n).toNat := by omega
      rcases hway with rfl | rfl | rfl
      · cases xa
        · cases xb
          · have HS1 : Hid (accL S (k + 1) = (O, false)) := hS1
            clear hS1
            go_wp2_with (first
              | (go_at_call 121; (with_reducible refine CA2.out.mono ?_); rintro e w' ⟨rfl, rfl⟩)
              | (go_at_call 121; (with_reducible refine CB2.out.mono ?_); rintro e w' ⟨rfl, rfl⟩))
            refine ⟨⟨k + 1, by omega, by go_num, by rw [HS1.out], ?_, HB.out⟩, hM⟩
            rw [HS1.out]
            exact hown
          · have HS1 : Hid (accL S (k + 1) = (O, false)) := hS1
            clear hS1
            go_wp2_with (first
              | (go_at_call 121; (with_reducible refine CA2.out.mono ?_); rintro e w' ⟨rfl, rfl⟩)
              | (go_at_call 121; (with_reducible refine CB2.out.mono ?_); rintro e w' ⟨rfl, rfl⟩))
            refine ⟨⟨k + 1, by omega, by go_num, by rw [HS1.out], ?_, HB.out⟩, hM⟩
            rw [HS1.out]
            exact hown
        · cases xb
          · have HS1 : Hid (accL S (k + 1) = (O, false)) := hS1
            clear hS1
            go_wp2_with (first
              | (go_at_call 121; (with_reducible refine CA2.out.mono ?_); rintro e w' ⟨rfl, rfl⟩)
              | (go_at_call 121; (with_reducible refine CB2.out.mono ?_); rintro e w' ⟨rfl, rfl⟩))
            refine ⟨⟨k + 1, by omega, by go_num, by rw [HS1.out], ?_, HB.out⟩, hM⟩
            rw [HS1.out]
            exact hown
          · cases op
            · have HS1 : Hid (accL S (k + 1) = (O ++ [(n, n)], true)) := hS1
              rw [HS1.out] at hL1
              clear hS1
              go_wp2_with (first
                | (go_at_call 121; (with_reducible refine CA2.out.mono ?_); rintro e w' ⟨rfl, rfl⟩)
                | (go_at_call 121; (with_reducible refine CB2.out.mono ?_); rintro e w' ⟨rfl, rfl⟩)
                | (at_builtin; refine wpList_append2 rfl (.tmp 69) (.tmp 73) 61 rfl w.heap.size 107 i0 (.agg #[.int .i64 0, .int .i64 0]) 16 Try.underlying61 hi hz0 hz1 hz2 rfl _ _ _ rfl hown _ _ rfl rfl rfl rfl (by omega) hle ?_; intro v1 w1 o1 b1 n1))
              refine ⟨⟨k + 1, by omega, by go_num, by rw [HS1.out], ?_, HB.out.trans b1⟩, hM⟩
              rw [HS1.out, List.length_append, cellsR_append]
              exact o1
            · obtain ⟨M, p, hMp⟩ := HO1.out rfl
              simp only at hMp
              subst hMp
              have HS1 : Hid (accL S (k + 1) = (M ++ [(p.1, n)], true)) := by rw [← setTop_snoc]; exact hS1
              clear hS1
              obtain ⟨g, oc, rfl, hgb, hcells⟩ := owns_pos hown (by simp)
              have gf := hown.frozenAt (M.length * 2 + 1)
              have HQ := Lib.hid (hown.stored (M.length * 2 + 1) (.int .i64 n))
              have g1 := hcells (M.length * 2 + 1) (by simp; omega)
              rw [(cellsR_at (M ++ [p]) M.length (by simp)).2] at g1
              have hML : (M ++ [p]).length = M.length + 1 := by simp
              rw [hML]
              rw [hML] at HQ
              clear hcells hown
              generalize (M ++ [p])[M.length].2 = pu at g1
              go_wp2_with (first
                | (go_at_call 121; (with_reducible refine CA2.out.mono ?_); rintro e w' ⟨rfl, rfl⟩)
                | (go_at_call 121; (with_reducible refine CB2.out.mono ?_); rintro e w' ⟨rfl, rfl⟩))
              refine ⟨⟨k + 1, by omega, by go_num, by rw [HS1.out], ?_, HB.out.setCell (p := ⟨g, M.length * 2 + 1, none⟩) hgb _⟩, hM⟩
              rw [HS1.out, ← cellsR_last, List.length_append]
              exact HQ.out.1
      · cases xa
        · cases xb
          · have HS1 : Hid (accL S (k + 1) = (O, false)) := hS1
            clear hS1
            go_wp2_with (first
              | (go_at_call 121; (with_reducible refine CA2.out.mono ?_); rintro e w' ⟨rfl, rfl⟩)
              | (go_at_call 121; (with_reducible refine CB2.out.mono ?_); rintro e w' ⟨rfl, rfl⟩))
            refine ⟨⟨k + 1, by omega, by go_num, by rw [HS1.out], ?_, HB.out⟩, hM⟩
            rw [HS1.out]
            exact hown
          · cases op
            · have HS1 : Hid (accL S (k + 1) = (O ++ [(n, n)], true)) := hS1
              rw [HS1.out] at hL1
              clear hS1
              go_wp2_with (first
                | (go_at_call 121; (with_reducible refine CA2.out.mono ?_); rintro e w' ⟨rfl, rfl⟩)
                | (go_at_call 121; (with_reducible refine CB2.out.mono ?_); rintro e w' ⟨rfl, rfl⟩)
                | (at_builtin; refine wpList_append2 rfl (.tmp 69) (.tmp 73) 61 rfl w.heap.size 107 i0 (.agg #[.int .i64 0, .int .i64 0]) 16 Try.underlying61 hi hz0 hz1 hz2 rfl _ _ _ rfl hown _ _ rfl rfl rfl rfl (by omega) hle ?_; intro v1 w1 o1 b1 n1))
              refine ⟨⟨k + 1, by omega, by go_num, by rw [HS1.out], ?_, HB.out.trans b1⟩, hM⟩
              rw [HS1.out, List.length_append, cellsR_append]
              exact o1
            · obtain ⟨M, p, hMp⟩ := HO1.out rfl
              simp only at hMp
              subst hMp
              have HS1 : Hid (accL S (k + 1) = (M ++ [(p.1, n)], true)) := by rw [← setTop_snoc]; exact hS1
              clear hS1
              obtain ⟨g, oc, rfl, hgb, hcells⟩ := owns_pos hown (by simp)
              have gf := hown.frozenAt (M.length * 2 + 1)
              have HQ := Lib.hid (hown.stored (M.length * 2 + 1) (.int .i64 n))
              have g1 := hcells (M.length * 2 + 1) (by simp; omega)
              rw [(cellsR_at (M ++ [p]) M.length (by simp)).2] at g1
              have hML : (M ++ [p]).length = M.length + 1 := by simp
              rw [hML]
              rw [hML] at HQ
              clear hcells hown
              generalize (M ++ [p])[M.length].2 = pu at g1
              go_wp2_with (first
                | (go_at_call 121; (with_reducible refine CA2.out.mono ?_); rintro e w' ⟨rfl, rfl⟩)
                | (go_at_call 121; (with_reducible refine CB2.out.mono ?_); rintro e w' ⟨rfl, rfl⟩))
              refine ⟨⟨k + 1, by omega, by go_num, by rw [HS1.out], ?_, HB.out.setCell (p := ⟨g, M.length * 2 + 1, none⟩) hgb _⟩, hM⟩
              rw [HS1.out, ← cellsR_last, List.length_append]
              exact HQ.out.1
        · cases xb
          · cases op
            · have HS1 : Hid (accL S (k + 1) = (O ++ [(n, n)], true)) := hS1
              rw [HS1.out] at hL1
              clear hS1
              go_wp2_with (first
                | (go_at_call 121; (with_reducible refine CA2.out.mono ?_); rintro e w' ⟨rfl, rfl⟩)
                | (go_at_call 121; (with_reducible refine CB2.out.mono ?_); rintro e w' ⟨rfl, rfl⟩)
                | (at_builtin; refine wpList_append2 rfl (.tmp 69) (.tmp 73) 61 rfl w.heap.size 107 i0 (.agg #[.int .i64 0, .int .i64 0]) 16 Try.underlying61 hi hz0 hz1 hz2 rfl _ _ _ rfl hown _ _ rfl rfl rfl rfl (by omega) hle ?_; intro v1 w1 o1 b1 n1))
              refine ⟨⟨k + 1, by omega, by go_num, by rw [HS1.out], ?_, HB.out.trans b1⟩, hM⟩
              rw [HS1.out, List.length_append, cellsR_append]
              exact o1
            · obtain ⟨M, p, hMp⟩ := HO1.out rfl
              simp only at hMp
              subst hMp
              have HS1 : Hid (accL S (k + 1) = (M ++ [(p.1, n)], true)) := by rw [← setTop_snoc]; exact hS1
              clear hS1
              obtain ⟨g, oc, rfl, hgb, hcells⟩ := owns_pos hown (by simp)
              have gf := hown.frozenAt (M.length * 2 + 1)
              have HQ := Lib.hid (hown.stored (M.length * 2 + 1) (.int .i64 n))
              have g1 := hcells (M.length * 2 + 1) (by simp; omega)
              rw [(cellsR_at (M ++ [p]) M.length (by simp)).2] at g1
              have hML : (M ++ [p]).length = M.length + 1 := by simp
              rw [hML]
              rw [hML] at HQ
              clear hcells hown
              generalize (M ++ [p])[M.length].2 = pu at g1
              go_wp2_with (first
                | (go_at_call 121; (with_reducible refine CA2.out.mono ?_); rintro e w' ⟨rfl, rfl⟩)
                | (go_at_call 121; (with_reducible refine CB2.out.mono ?_); rintro e w' ⟨rfl, rfl⟩))
              refine ⟨⟨k + 1, by omega, by go_num, by rw [HS1.out], ?_, HB.out.setCell (p := ⟨g, M.length * 2 + 1, none⟩) hgb _⟩, hM⟩
              rw [HS1.out, ← cellsR_last, List.length_append]
              exact HQ.out.1
          · cases op
            · have HS1 : Hid (accL S (k + 1) = (O ++ [(n, n)], true)) := hS1
              rw [HS1.out] at hL1
              clear hS1
              go_wp2_with (first
                | (go_at_call 121; (with_reducible refine CA2.out.mono ?_); rintro e w' ⟨rfl, rfl⟩)
                | (go_at_call 121; (with_reducible refine CB2.out.mono ?_); rintro e w' ⟨rfl, rfl⟩)
                | (at_builtin; refine wpList_append2 rfl (.tmp 69) (.tmp 73) 61 rfl w.heap.size 107 i0 (.agg #[.int .i64 0, .int .i64 0]) 16 Try.underlying61 hi hz0 hz1 hz2 rfl _ _ _ rfl hown _ _ rfl rfl rfl rfl (by omega) hle ?_; intro v1 w1 o1 b1 n1))
              refine ⟨⟨k + 1, by omega, by go_num, by rw [HS1.out], ?_, HB.out.trans b1⟩, hM⟩
              rw [HS1.out, List.length_append, cellsR_append]
              exact o1
            · obtain ⟨M, p, hMp⟩ := HO1.out rfl
              simp only at hMp
              subst hMp
              have HS1 : Hid (accL S (k + 1) = (M ++ [(p.1, n)], true)) := by rw [← setTop_snoc]; exact hS1
              clear hS1
              obtain ⟨g, oc, rfl, hgb, hcells⟩ := owns_pos hown (by simp)
              have gf := hown.frozenAt (M.length * 2 + 1)
              have HQ := Lib.hid (hown.stored (M.length * 2 + 1) (.int .i64 n))
              have g1 := hcells (M.length * 2 + 1) (by simp; omega)
              rw [(cellsR_at (M ++ [p]) M.length (by simp)).2] at g1
              have hML : (M ++ [p]).length = M.length + 1 := by simp
              rw [hML]
              rw [hML] at HQ
              clear hcells hown
              generalize (M ++ [p])[M.length].2 = pu at g1
              go_wp2_with (first
                | (go_at_call 121; (with_reducible refine CA2.out.mono ?_); rintro e w' ⟨rfl, rfl⟩)
                | (go_at_call 121; (with_reducible refine CB2.out.mono ?_); rintro e w' ⟨rfl, rfl⟩))
              refine ⟨⟨k + 1, by omega, by go_num, by rw [HS1.out], ?_, HB.out.setCell (p := ⟨g, M.length * 2 + 1, none⟩) hgb _⟩, hM⟩
              rw [HS1.out, ← cellsR_last, List.length_append]
              exact HQ.out.1
      · cases xa
        · cases xb
          · have HS1 : Hid (accL S (k + 1) = (O, false)) := hS1
            clear hS1
            go_wp2_with (first
              | (go_at_call 121; (with_reducible refine CA2.out.mono ?_); rintro e w' ⟨rfl, rfl⟩)
              | (go_at_call 121; (with_reducible refine CB2.out.mono ?_); rintro e w' ⟨rfl, rfl⟩))
            refine ⟨⟨k + 1, by omega, by go_num, by rw [HS1.out], ?_, HB.out⟩, hM⟩
            rw [HS1.out]
            exact hown
          · have HS1 : Hid (accL S (k + 1) = (O, false)) := hS1
            clear hS1
            go_wp2_with (first
              | (go_at_call 121; (with_reducible refine CA2.out.mono ?_); rintro e w' ⟨rfl, rfl⟩)
              | (go_at_call 121; (with_reducible refine CB2.out.mono ?_); rintro e w' ⟨rfl, rfl⟩))
            refine ⟨⟨k + 1, by omega, by go_num, by rw [HS1.out], ?_, HB.out⟩, hM⟩
            rw [HS1.out]
            exact hown
        · cases xb
          · cases op
            · have HS1 : Hid (accL S (k + 1) = (O ++ [(n, n)], true)) := hS1
              rw [HS1.out] at hL1
              clear hS1
              go_wp2_with (first
                | (go_at_call 121; (with_reducible refine CA2.out.mono ?_); rintro e w' ⟨rfl, rfl⟩)
                | (go_at_call 121; (with_reducible refine CB2.out.mono ?_); rintro e w' ⟨rfl, rfl⟩)
                | (at_builtin; refine wpList_append2 rfl (.tmp 69) (.tmp 73) 61 rfl w.heap.size 107 i0 (.agg #[.int .i64 0, .int .i64 0]) 16 Try.underlying61 hi hz0 hz1 hz2 rfl _ _ _ rfl hown _ _ rfl rfl rfl rfl (by omega) hle ?_; intro v1 w1 o1 b1 n1))
              refine ⟨⟨k + 1, by omega, by go_num, by rw [HS1.out], ?_, HB.out.trans b1⟩, hM⟩
              rw [HS1.out, List.length_append, cellsR_append]
              exact o1
            · obtain ⟨M, p, hMp⟩ := HO1.out rfl
              simp only at hMp
              subst hMp
              have HS1 : Hid (accL S (k + 1) = (M ++ [(p.1, n)], true)) := by rw [← setTop_snoc]; exact hS1
              clear hS1
              obtain ⟨g, oc, rfl, hgb, hcells⟩ := owns_pos hown (by simp)
              have gf := hown.frozenAt (M.length * 2 + 1)
              have HQ := Lib.hid (hown.stored (M.length * 2 + 1) (.int .i64 n))
              have g1 := hcells (M.length * 2 + 1) (by simp; omega)
              rw [(cellsR_at (M ++ [p]) M.length (by simp)).2] at g1
              have hML : (M ++ [p]).length = M.length + 1 := by simp
              rw [hML]
              rw [hML] at HQ
              clear hcells hown
              generalize (M ++ [p])[M.length].2 = pu at g1
              go_wp2_with (first
                | (go_at_call 121; (with_reducible refine CA2.out.mono ?_); rintro e w' ⟨rfl, rfl⟩)
                | (go_at_call 121; (with_reducible refine CB2.out.mono ?_); rintro e w' ⟨rfl, rfl⟩))
              refine ⟨⟨k + 1, by omega, by go_num, by rw [HS1.out], ?_, HB.out.setCell (p := ⟨g, M.length * 2 + 1, none⟩) hgb _⟩, hM⟩
              rw [HS1.out, ← cellsR_last, List.length_append]
              exact HQ.out.1
          · have HS1 : Hid (accL S (k + 1) = (O, false)) := hS1
            clear hS1
            go_wp2_with (first
              | (go_at_call 121; (with_reducible refine CA2.out.mono ?_); rintro e w' ⟨rfl, rfl⟩)
              | (go_at_call 121; (with_reducible refine CB2.out.mono ?_); rintro e w' ⟨rfl, rfl⟩))
            refine ⟨⟨k + 1, by omega, by go_num, by rw [HS1.out], ?_, HB.out⟩, hM⟩
            rw [HS1.out]
            exact hown
    · obtain rfl : k = 401 := by omega
      rw [HC.out] at hown
      obtain ⟨oa, oc, rfl, _⟩ := (SlAt.of_own hown).shape
      go_wp2
      go_ret
      exact ⟨_, _, rfl, RgAt.own hown, HB.out, fun b hb => (hown.lt b hb).1⟩
theorem refList_c (va vb : Value) (a b : List Rg) (way : Int) (hway : way = 1 ∨ way = 2 ∨ way = 3) (w : World) (ha : RgAt w va a) (hb : RgAt w vb b) (hla : a.length ≤ 4096) (hlb : b.length ≤ 4096) :
    Calls Try.prog 99 #[va, vb, .int .i64 way] w (RetR (canon (wayS way a b)) w) := (list_n va vb a b way hway w ha hb hla hlb).mono fun _ _ h => h.toR
end Go.Proofs.Ytmffobadnmkpbaa
namespace Go.Proofs.Ytmffobadnmkpbaa
open Go.RowKit

theorem cellsR_one' (rs : List Rg) : ∀ u ∈ cellsR rs, u.oneCell' = true := cellsR_one rs

set_option maxRecDepth 100000 in
set_option maxHeartbeats 1600000 in
theorem normal_c (va : Value) (a : List Rg) (w : World) (ha : RgAt w va a) (hla : a.length ≤ 4096) :
    Calls Try.prog 98 #[va] w fun e w' => ∃ r : Bool, e = .returned (.bool r) ∧ (r = true → Normal a) ∧ ∃ q, w' = w.drewN q := by
  obtain ⟨ao, cap, rfl, _⟩ := ha.shape
  have HA := Lib.hid ha
  clear ha
  go_enter Try.func98, Try.ntmps98
  go_wp2
  go_loopw [3] (fun s wr => ∃ k q : Nat, k ≤ a.length ∧ s = .int .i64 k ∧ Normal (a.take k) ∧ wr = w.drewN q) (fun s _ => a.length - (intOf s).toNat)
  case atStart => exact ⟨0, 0, by omega, rfl, trivial, rfl⟩
  case round =>
    obtain ⟨k, q, hk, rfl, hN, rfl⟩ := hrel
    by_cases hlt : k < a.length
    · obtain ⟨b, off, c', he, hcap, hbs, hc⟩ := RgAt.at HA.out (by omega)
      simp only [Value.slice.injEq, true_and] at he
      obtain ⟨rfl, rfl⟩ := he
      obtain ⟨c1, c2⟩ := hc k hlt
      have HT : Hid (a.take (k + 1) = a.take k ++ [a[k]]) := List.take_succ_eq_append_getElem hlt
      obtain ⟨r, hr⟩ : ∃ r, r = a[k] := ⟨_, rfl⟩
      rw [← hr] at c1 c2 HT
      clear hr
      have HN := Lib.hid hN
      clear hN
      by_cases h1 : r.1 > r.2
      · have g1 : decide (r.1 > r.2) = true := by simpa using h1
        clear hc
        go_wp2
        go_quiet (fail)
        go_wp2
        go_ret
        exact ⟨_, rfl, (fun h => by cases h), _, World.drewN_drewN _ _ _⟩
      have g1 : decide (r.1 > r.2) = false := by simpa using h1
      by_cases h2 : r.1 < -200
      · have g2 : decide (r.1 < -200) = true := by simpa using h2
        clear hc
        go_wp2
        go_quiet (fail)
        go_wp2
        go_ret
        exact ⟨_, rfl, (fun h => by cases h), _, World.drewN_drewN _ _ _⟩
      have g2 : decide (r.1 < -200) = false := by simpa using h2
      by_cases h3 : r.2 > 200
      · have g3 : decide (r.2 > 200) = true := by simpa using h3
        clear hc
        go_wp2
        go_quiet (fail)
        go_wp2
        go_ret
        exact ⟨_, rfl, (fun h => by cases h), _, World.drewN_drewN _ _ _⟩
      have g3 : decide (r.2 > 200) = false := by simpa using h3
      rcases Nat.eq_zero_or_pos k with rfl | hk0
      · clear hc
        have g4 : decide (((0 : Nat) : Int) > 0) = false := by simp
        have HK : Hid (Normal (a.take (0 + 1))) := by
          show Normal _
          rw [HT.out]
          exact normal_snoc.2 ⟨HN.out, by omega, by omega, by omega, fun q hq => by simp at hq⟩
        rw [Nat.zero_mul, Nat.add_zero] at c1 c2
        go_wp2
        go_quiet (fail)
        go_wp2
        exact ⟨⟨1, q + nq, by omega, rfl, HK.out, rfl⟩, by simp [intOf]; omega⟩
      · obtain ⟨m, rfl⟩ : ∃ m, k = m + 1 := ⟨k - 1, by omega⟩
        obtain ⟨d1, d2⟩ := hc m (by omega)
        obtain ⟨s, hs⟩ : ∃ s, s = a[m] := ⟨_, rfl⟩
        rw [← hs] at d1 d2
        have HG : Hid ((a.take (m + 1)).getLast? = some s) := by
          show _ = _
          rw [List.take_succ_eq_append_getElem (by omega), List.getLast?_concat, hs]
        clear hc hs d1
        have g4 : decide (((m + 1 : Nat) : Int) > 0) = true := by simp
        by_cases h5 : r.1 - 1 ≤ s.2
        · have g5 : decide (r.1 - 1 ≤ s.2) = true := by simpa using h5
          go_wp2
          go_quiet (fail)
          go_wp2
          go_ret
          exact ⟨_, rfl, (fun h => by cases h), _, World.drewN_drewN _ _ _⟩
        · have g5 : decide (r.1 - 1 ≤ s.2) = false := by simpa using h5
          have HK : Hid (Normal (a.take (m + 1 + 1))) := by
            show Normal _
            rw [HT.out]
            exact normal_snoc.2 ⟨HN.out, by omega, by omega, by omega, fun q hq => by rw [HG.out] at hq; cases hq; exact h5⟩
          go_wp2
          go_quiet (fail)
          go_wp2
          exact ⟨⟨m + 1 + 1, q + nq, by omega, by go_num, HK.out, rfl⟩, by simp [intOf]; omega⟩
    · obtain rfl : k = a.length := by omega
      rw [List.take_length] at hN
      go_wp2
      go_ret
      exact ⟨_, rfl, (fun _ => hN), _, rfl⟩

theorem way1 (a b : List Rg) : canon (wayS 1 a b) = meetL a b := by unfold meetL; exact canon_congr fun n _ _ => by simp [wayS]
theorem way2 (a b : List Rg) : canon (wayS 2 a b) = joinL a b := by unfold joinL; exact canon_congr fun n _ _ => by simp [wayS]
theorem way3 (a b : List Rg) : canon (wayS 3 a b) = minusL a b := by unfold minusL; exact canon_congr fun n _ _ => by simp [wayS]
theorem way2nil (a : List Rg) : canon (wayS 2 a []) = norm a := by rw [way2]; unfold joinL norm; exact canon_congr fun n _ _ => by rw [memL_nil, Bool.or_false]

set_option maxRecDepth 100000 in
set_option maxHeartbeats 800000 in
theorem refNorm_n (va : Value) (a : List Rg) (w : World) (ha : RgAt w va a) (hla : a.length ≤ 4096) :
    Calls Try.prog 59 #[va] w (RetN (norm a) w) := by
  obtain ⟨i0, hi, hz0, hz1, hz2⟩ := info_parts Try.infoRg
  obtain ⟨ao, cap, rfl, _⟩ := ha.shape
  have HA := Lib.hid ha
  have CN := Lib.hid (normal_c _ a w ha hla)
  have CL : Hid (∀ W, Below w.heap.size w W → Calls Try.prog 99 #[.slice ao a.length cap, .slice none 0 0, .int .i64 2] W (RetN (norm a) W)) := fun W h => by
    have := list_n _ (.slice none 0 0) a [] 2 (by simp) W (ha.below h) RgAt.nil hla (by simp)
    rwa [way2nil] at this
  have HNN : Hid (Normal a → norm a = a) := norm_of_normal
  clear ha
  generalize norm a = na at CL HNN ⊢
  go_enter Try.func59, Try.ntmps59
  go_wp2_with (first
    | (go_at_call 98; (with_reducible refine CN.out.mono ?_); rintro e w' ⟨r, rfl, hr, q, rfl⟩; have HR := Lib.hid hr; clear hr; cases r)
    | (at_builtin; refine wpList_append_sl rfl (.tmp 7) (.tmp 8) 61 rfl w.heap.size 107 i0 (.agg #[.int .i64 0, .int .i64 0]) 2 16 Try.underlying61 hi hz0 hz1 hz2 rfl (by decide) _ 0 [] rfl (World.ownsRow_made _ #[] 0 (Nat.le_refl _) (by decide) rfl) _ _ _ rfl (SlAt.alloc (SlAt.drewN HA.out _) _) (cellsR_one _) (by omega) (by simp) ?_; intro v1 w1 o1 b1 g1; clear g1)
    | (go_at_call 99; (with_reducible refine (CL.out _ (below_drewN (Below.refl _ _) _)).mono ?_); rintro e W ⟨a1, c1, rfl, hr1, hb1, hn1⟩))
  · go_ret
    exact ⟨_, _, rfl, hr1, (below_drewN (Below.refl _ _) _).trans hb1, hn1⟩
  · go_ret
    have hn := HNN.out (HR.out (by trivial))
    subst hn
    rw [Nat.zero_add, List.nil_append] at o1
    have hb : Below w.heap.size w w1 := by first | exact (((below_drewN (Below.refl _ _) _).alloc (Nat.le_refl _) _).trans b1) | exact ((below_drewN ((Below.refl _ _).alloc (Nat.le_refl _) _) _).trans b1)
    obtain ⟨oa, oc, rfl, _⟩ := (SlAt.of_own o1).shape
    exact ⟨_, _, rfl, RgAt.own o1, hb, fun b h => (o1.lt b h).1⟩

theorem refNorm_c (va : Value) (a : List Rg) (w : World) (ha : RgAt w va a) (hla : a.length ≤ 4096) :
    Calls Try.prog 59 #[va] w (RetR (norm a) w) := (refNorm_n va a w ha hla).mono fun _ _ h => h.toR
theorem refJoin_n (va vb : Value) (a b : List Rg) (w : World) (ha : RgAt w va a) (hb : RgAt w vb b) (hla : a.length ≤ 4096) (hlb : b.length ≤ 4096) :
    Calls Try.prog 102 #[va, vb] w (RetN (joinL a b) w) := by
  obtain ⟨ao, cap, rfl, _⟩ := ha.shape
  obtain ⟨ao2, cap2, rfl, _⟩ := hb.shape
  have C := Lib.hid (list_n _ _ a b 2 (by simp) w ha hb hla hlb)
  rw [way2] at C
  clear ha hb
  generalize joinL a b = me at C ⊢
  go_enter Try.func102, Try.ntmps102
  go_wp2_with (go_at_call 99; (with_reducible refine C.out.mono ?_); rintro e W ⟨a1, c1, rfl, hr1, hb1, hn1⟩)
  go_ret
  exact ⟨_, _, rfl, hr1, hb1, hn1⟩
theorem refJoin_c (va vb : Value) (a b : List Rg) (w : World) (ha : RgAt w va a) (hb : RgAt w vb b) (hla : a.length ≤ 4096) (hlb : b.length ≤ 4096) :
    Calls Try.prog 102 #[va, vb] w (RetR (joinL a b) w) := (refJoin_n va vb a b w ha hb hla hlb).mono fun _ _ h => h.toR
theorem rgAt_lit2 (w : World) (r : Rg) (T : TypeId) : RgAt (w.alloc (.cells #[.int .i64 r.1, .int .i64 r.2] T)) (.slice (some ⟨w.heap.size, 0, none⟩) 1 1) [r] :=
  RgAt.own (e := T) (World.ownsRow_lit (base := 0) w #[.int .i64 r.1, .int .i64 r.2] 1 (Nat.zero_le _) (by simp [maxLen]) rfl)
theorem minus_whole (a : List Rg) : minusL [(-200, 200)] a = complL a := by
  unfold minusL complL
  exact canon_congr fun n h1 h2 => by simp [memL_cons, memL_nil, h1, h2]
end Go.Proofs.Ytmffobadnmkpbaa
