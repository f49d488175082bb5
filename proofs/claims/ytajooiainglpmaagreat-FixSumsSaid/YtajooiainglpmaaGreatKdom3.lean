/-
  coneyref14.Has, .list, walked.
  dom.Meet, dom.Compl, dom.Minus, walked.
  '!=' at ranges.
  dom.Compl, dom.Size, dom.Ends, dom.At; coneylaw14.many, coneylaw14.same, walked.
  dom.Minus, dom.Size, dom.Ends, dom.At, walked.
-/
import Derived.Test.YtajooiainglpmaaGreatKdom2
import Derived.Test.YtajooiainglpmaaGreatKdom1
import Derived.Laws.StructEq
namespace Go.Proofs.YtajooiainglpmaaGreat
open Go.RowKit

set_option maxRecDepth 100000 in
set_option maxHeartbeats 800000 in
theorem refHas_c (va : Value) (a : List Rg) (n : Int) (w : World) (ha : RgAt w va a) (hla : a.length ≤ 4096) :
    Calls Tryz.prog 16 #[va, .int .i64 n] w fun e w' => e = .returned (.bool (inD n && memL a n)) ∧ w = w' := by
  obtain ⟨ao, cap, rfl, _⟩ := ha.shape
  have HA := Lib.hid ha
  clear ha
  by_cases h1 : n < -200
  · go_enter Tryz.func16, Tryz.ntmps16
    go_wp2
    go_ret
    exact ⟨ret_bool (by symm; simp [inD]; omega), rfl⟩
  by_cases h2 : 200 < n
  · go_enter Tryz.func16, Tryz.ntmps16
    go_wp2
    go_ret
    exact ⟨ret_bool (by symm; simp [inD]; omega), rfl⟩
  have HI : Hid ((inD n && memL a n) = memL a n) := by show _ = _; simp [inD, show -200 ≤ n by omega, show n ≤ 200 by omega]
  rw [HI.out]
  clear HI
  go_enter Tryz.func16, Tryz.ntmps16
  go_wp2
  go_loop [5] (fun s => ∃ k : Nat, k ≤ a.length ∧ s = .int .i64 k ∧ memL a n = memL (a.drop k) n) (fun s => a.length - (intOf s).toNat)
  case atStart => exact ⟨0, by omega, rfl, rfl⟩
  case round =>
    obtain ⟨k, hk, rfl, hE⟩ := hrel
    by_cases hlt : k < a.length
    · obtain ⟨b, off, c', he, hcap, hbs, hc⟩ := RgAt.at HA.out (by omega)
      simp only [Value.slice.injEq, true_and] at he
      obtain ⟨rfl, rfl⟩ := he
      obtain ⟨c1, c2⟩ := hc k hlt
      rw [List.drop_eq_getElem_cons hlt, memL_cons] at hE
      obtain ⟨r, hr⟩ : ∃ r, r = a[k] := ⟨_, rfl⟩
      rw [← hr] at c1 c2 hE
      have HE := Lib.hid hE
      clear hc hr hE
      by_cases hx : r.1 ≤ n
      · by_cases hy : n ≤ r.2
        · go_wp2
          go_ret
          exact ⟨ret_bool (by rw [HE.out]; simp [hx, hy]), rfl⟩
        · go_wp2
          exact ⟨⟨k + 1, by omega, by go_num, by rw [HE.out]; simp [hx, hy]⟩, by simp [intOf]; omega⟩
      · go_wp2
        exact ⟨⟨k + 1, by omega, by go_num, by rw [HE.out]; simp [hx]⟩, by simp [intOf]; omega⟩
    · obtain rfl : k = a.length := by omega
      rw [List.drop_length, memL_nil] at hE
      have HE := Lib.hid hE
      clear hE
      go_wp2
      go_ret
      exact ⟨ret_bool (by rw [HE.out]), rfl⟩

/-- the ways in which two sets are joined -/
def wayS (way : Int) (a b : List Rg) (n : Int) : Bool :=
  (decide (way = 1) && memL a n && memL b n) || (decide (way = 2) && (memL a n || memL b n)) || (decide (way = 3) && memL a n && !memL b n)

set_option maxRecDepth 100000 in
set_option maxHeartbeats 3200000 in
theorem list_n (va vb : Value) (a b : List Rg) (way : Int) (hway : way = 1 ∨ way = 2 ∨ way = 3) (w : World) (ha : RgAt w va a) (hb : RgAt w vb b) (hla : a.length ≤ 4096) (hlb : b.length ≤ 4096) :
    Calls Tryz.prog 45 #[va, vb, .int .i64 way] w (RetN (canon (wayS way a b)) w) := by
  obtain ⟨i0, hi, hz0, hz1, hz2⟩ := info_parts Tryz.infoRg
  obtain ⟨ao, cap, rfl, _⟩ := ha.shape
  obtain ⟨ao2, cap2, rfl, _⟩ := hb.shape
  have CA : Hid (∀ n W, Below w.heap.size w W → Calls Tryz.prog 16 #[.slice ao a.length cap, .int .i64 n] W fun e w' => e = .returned (.bool (inD n && memL a n)) ∧ W = w') := fun n W h => refHas_c _ a n W (ha.below h) hla
  have CB : Hid (∀ n W, Below w.heap.size w W → Calls Tryz.prog 16 #[.slice ao2 b.length cap2, .int .i64 n] W fun e w' => e = .returned (.bool (inD n && memL b n)) ∧ W = w') := fun n W h => refHas_c _ b n W (hb.below h) hlb
  have HC : Hid ((accL (wayS way a b) 401).1 = canon (wayS way a b)) := accL_canon _
  have hln : (canon (wayS way a b)).length ≤ 201 := canon_len _
  have HL : Hid (∀ k, k ≤ 401 → (accL (wayS way a b) k).1.length ≤ 201) := fun k h => accL_len _ k h
  have HS : Hid (∀ k, accL (wayS way a b) (k + 1) = if wayS way a b ((k : Int) - 200) = true then
      (if (accL (wayS way a b) k).2 = true then setTop (accL (wayS way a b) k).1 ((k : Int) - 200) else (accL (wayS way a b) k).1 ++ [((k : Int) - 200, (k : Int) - 200)], true)
    else ((accL (wayS way a b) k).1, false)) := fun k => rfl
  have HO : Hid (∀ k, k ≤ 401 → (accL (wayS way a b) k).2 = true → ∃ M p, (accL (wayS way a b) k).1 = M ++ [p]) := fun k h h2 => by
    obtain ⟨M, p, h3, _⟩ := (accL_ok (wayS way a b) k h).2.2.1 h2
    exact ⟨M, p, h3⟩
  clear ha hb
  have H0 : accL (wayS way a b) 0 = ([], false) := rfl
  have HW : Hid (∀ n, wayS way a b n = ((decide (way = 1) && memL a n && memL b n) || (decide (way = 2) && (memL a n || memL b n)) || (decide (way = 3) && memL a n && !memL b n))) := fun n => rfl
  generalize wayS way a b = S at *
  generalize hme : canon S = me at HC hln ⊢
  clear hme
  go_enter Tryz.func45, Tryz.ntmps45
  go_wp2
  go_loopw [7, 8, 9] (fun o op s wr => ∃ k : Nat, k ≤ 401 ∧ s = .int .i64 ((k : Int) - 200) ∧ op = .bool (accL S k).2 ∧ wr.ownsRow w.heap.size 32 2 o (accL S k).1.length (cellsR (accL S k).1) ∧ Below w.heap.size w wr) (fun _ _ s _ => (201 - intOf s).toNat)
  case atStart =>
    refine ⟨0, by omega, rfl, by rw [H0], ?_, (Below.refl _ _).alloc (Nat.le_refl _) _⟩
    rw [H0]
    exact World.ownsRow_made w #[] 0 (Nat.le_refl _) (by decide) rfl
  case round =>
    obtain ⟨k, hk, rfl, rfl, hown, hbel⟩ := hrel
    have HB := Lib.hid hbel
    have hle := hbel.size
    have hOl := HL.out k hk
    by_cases hlt : k < 401
    · have hS1 := HS.out k
      have hO1 := HO.out k hk
      have hL1 := HL.out (k + 1) (by omega)
      clear hbel
      have CA2 := Lib.hid (CA.out ((k : Int) - 200) wr HB.out)
      have CB2 := Lib.hid (CB.out ((k : Int) - 200) wr HB.out)
      have hin : inD ((k : Int) - 200) = true := by simp [inD]; omega
      rw [HW.out] at hS1
      rw [hin, Bool.true_and] at CA2 CB2
      generalize accL S k = st at *
      obtain ⟨O, op⟩ := st
      generalize hn : (k : Int) - 200 = n at *
      generalize memL a n = xa at *
      generalize memL b n = xb at *
      have HO1 := Lib.hid hO1
      clear hO1
      have hM : (201 - (n + 1)).toNat < (201 - n).toNat := by omega
      rcases hway with rfl | rfl | rfl
      · cases xa
        · cases xb
          · have HS1 : Hid (accL S (k + 1) = (O, false)) := hS1
            clear hS1
            go_wp2_with (first
              | (go_at_call 16; (with_reducible refine CA2.out.mono ?_); rintro e w' ⟨rfl, rfl⟩)
              | (go_at_call 16; (with_reducible refine CB2.out.mono ?_); rintro e w' ⟨rfl, rfl⟩))
            refine ⟨⟨k + 1, by omega, by go_num, by rw [HS1.out], ?_, HB.out⟩, hM⟩
            rw [HS1.out]
            exact hown
          · have HS1 : Hid (accL S (k + 1) = (O, false)) := hS1
            clear hS1
            go_wp2_with (first
              | (go_at_call 16; (with_reducible refine CA2.out.mono ?_); rintro e w' ⟨rfl, rfl⟩)
              | (go_at_call 16; (with_reducible refine CB2.out.mono ?_); rintro e w' ⟨rfl, rfl⟩))
            refine ⟨⟨k + 1, by omega, by go_num, by rw [HS1.out], ?_, HB.out⟩, hM⟩
            rw [HS1.out]
            exact hown
        · cases xb
          · have HS1 : Hid (accL S (k + 1) = (O, false)) := hS1
            clear hS1
            go_wp2_with (first
              | (go_at_call 16; (with_reducible refine CA2.out.mono ?_); rintro e w' ⟨rfl, rfl⟩)
              | (go_at_call 16; (with_reducible refine CB2.out.mono ?_); rintro e w' ⟨rfl, rfl⟩))
            refine ⟨⟨k + 1, by omega, by go_num, by rw [HS1.out], ?_, HB.out⟩, hM⟩
            rw [HS1.out]
            exact hown
          · cases op
            · have HS1 : Hid (accL S (k + 1) = (O ++ [(n, n)], true)) := hS1
              rw [HS1.out] at hL1
              clear hS1
              go_wp2_with (first
                | (go_at_call 16; (with_reducible refine CA2.out.mono ?_); rintro e w' ⟨rfl, rfl⟩)
                | (go_at_call 16; (with_reducible refine CB2.out.mono ?_); rintro e w' ⟨rfl, rfl⟩)
                | (at_builtin; refine wpList_append2 rfl (.tmp 69) (.tmp 73) 22 rfl w.heap.size 32 i0 (.agg #[.int .i64 0, .int .i64 0]) 16 Tryz.underlying22 hi hz0 hz1 hz2 rfl _ _ _ rfl hown _ _ rfl rfl rfl rfl (by omega) hle ?_; intro v1 w1 o1 b1 n1))
              refine ⟨⟨k + 1, by omega, by go_num, by rw [HS1.out], ?_, HB.out.trans b1⟩, hM⟩
              rw [HS1.out, List.length_append, cellsR_append]
              exact o1
            · obtain ⟨M, p, hMp⟩ := HO1.out rfl
              simp only at hMp
              subst hMp
              have HS1 : Hid (accL S (k + 1) = (M ++ [(p.1, n)], true)) := by rw [← setTop_snoc]; exact hS1
              clear hS1
              obtain ⟨g, oc, rfl, hgb, hcells⟩ := owns_pos hown (by simp)
              have gf := hown.frozenAt (M.length * 2 + 1)
              have HQ := Lib.hid (hown.stored (M.length * 2 + 1) (.int .i64 n))
              have g1 := hcells (M.length * 2 + 1) (by simp; omega)
              rw [(cellsR_at (M ++ [p]) M.length (by simp)).2] at g1
              have hML : (M ++ [p]).length = M.length + 1 := by simp
              rw [hML]
              rw [hML] at HQ
              clear hcells hown
              generalize (M ++ [p])[M.length].2 = pu at g1
              go_wp2_with (first
                | (go_at_call 16; (with_reducible refine CA2.out.mono ?_); rintro e w' ⟨rfl, rfl⟩)
                | (go_at_call 16; (with_reducible refine CB2.out.mono ?_); rintro e w' ⟨rfl, rfl⟩))
              refine ⟨⟨k + 1, by omega, by go_num, by rw [HS1.out], ?_, HB.out.setCell (p := ⟨g, M.length * 2 + 1, none⟩) hgb _⟩, hM⟩
              rw [HS1.out, ← cellsR_last, List.length_append]
              exact HQ.out.1
      · cases xa
        · cases xb
          · have HS1 : Hid (accL S (k + 1) = (O, false)) := hS1
            clear hS1
            go_wp2_with (first
              | (go_at_call 16; (with_reducible refine CA2.out.mono ?_); rintro e w' ⟨rfl, rfl⟩)
              | (go_at_call 16; (with_reducible refine CB2.out.mono ?_); rintro e w' ⟨rfl, rfl⟩))
            refine ⟨⟨k + 1, by omega, by go_num, by rw [HS1.out], ?_, HB.out⟩, hM⟩
            rw [HS1.out]
            exact hown
          · cases op
            · have HS1 : Hid (accL S (k + 1) = (O ++ [(n, n)], true)) := hS1
              rw [HS1.out] at hL1
              clear hS1
              go_wp2_with (first
                | (go_at_call 16; (with_reducible refine CA2.out.mono ?_); rintro e w' ⟨rfl, rfl⟩)
                | (go_at_call 16; (with_reducible refine CB2.out.mono ?_); rintro e w' ⟨rfl, rfl⟩)
                | (at_builtin; refine wpList_append2 rfl (.tmp 69) (.tmp 73) 22 rfl w.heap.size 32 i0 (.agg #[.int .i64 0, .int .i64 0]) 16 Tryz.underlying22 hi hz0 hz1 hz2 rfl _ _ _ rfl hown _ _ rfl rfl rfl rfl (by omega) hle ?_; intro v1 w1 o1 b1 n1))
              refine ⟨⟨k + 1, by omega, by go_num, by rw [HS1.out], ?_, HB.out.trans b1⟩, hM⟩
              rw [HS1.out, List.length_append, cellsR_append]
              exact o1
            · obtain ⟨M, p, hMp⟩ := HO1.out rfl
              simp only at hMp
              subst hMp
              have HS1 : Hid (accL S (k + 1) = (M ++ [(p.1, n)], true)) := by rw [← setTop_snoc]; exact hS1
              clear hS1
              obtain ⟨g, oc, rfl, hgb, hcells⟩ := owns_pos hown (by simp)
              have gf := hown.frozenAt (M.length * 2 + 1)
              have HQ := Lib.hid (hown.stored (M.length * 2 + 1) (.int .i64 n))
              have g1 := hcells (M.length * 2 + 1) (by simp; omega)
              rw [(cellsR_at (M ++ [p]) M.length (by simp)).2] at g1
              have hML : (M ++ [p]).length = M.length + 1 := by simp
              rw [hML]
              rw [hML] at HQ
              clear hcells hown
              generalize (M ++ [p])[M.length].2 = pu at g1
              go_wp2_with (first
                | (go_at_call 16; (with_reducible refine CA2.out.mono ?_); rintro e w' ⟨rfl, rfl⟩)
                | (go_at_call 16; (with_reducible refine CB2.out.mono ?_); rintro e w' ⟨rfl, rfl⟩))
              refine ⟨⟨k + 1, by omega, by go_num, by rw [HS1.out], ?_, HB.out.setCell (p := ⟨g, M.length * 2 + 1, none⟩) hgb _⟩, hM⟩
              rw [HS1.out, ← cellsR_last, List.length_append]
              exact HQ.out.1
        · cases xb
          · cases op
            · have HS1 : Hid (accL S (k + 1) = (O ++ [(n, n)], true)) := hS1
              rw [HS1.out] at hL1
              clear hS1
              go_wp2_with (first
                | (go_at_call 16; (with_reducible refine CA2.out.mono ?_); rintro e w' ⟨rfl, rfl⟩)
                | (go_at_call 16; (with_reducible refine CB2.out.mono ?_); rintro e w' ⟨rfl, rfl⟩)
                | (at_builtin; refine wpList_append2 rfl (.tmp 69) (.tmp 73) 22 rfl w.heap.size 32 i0 (.agg #[.int .i64 0, .int .i64 0]) 16 Tryz.underlying22 hi hz0 hz1 hz2 rfl _ _ _ rfl hown _ _ rfl rfl rfl rfl (by omega) hle ?_; intro v1 w1 o1 b1 n1))
              refine ⟨⟨k + 1, by omega, by go_num, by rw [HS1.out], ?_, HB.out.trans b1⟩, hM⟩
              rw [HS1.out, List.length_append, cellsR_append]
              exact o1
            · obtain ⟨M, p, hMp⟩ := HO1.out rfl
              simp only at hMp
              subst hMp
              have HS1 : Hid (accL S (k + 1) = (M ++ [(p.1, n)], true)) := by rw [← setTop_snoc]; exact hS1
              clear hS1
              obtain ⟨g, oc, rfl, hgb, hcells⟩ := owns_pos hown (by simp)
              have gf := hown.frozenAt (M.length * 2 + 1)
              have HQ := Lib.hid (hown.stored (M.length * 2 + 1) (.int .i64 n))
              have g1 := hcells (M.length * 2 + 1) (by simp; omega)
              rw [(cellsR_at (M ++ [p]) M.length (by simp)).2] at g1
              have hML : (M ++ [p]).length = M.length + 1 := by simp
              rw [hML]
              rw [hML] at HQ
              clear hcells hown
              generalize (M ++ [p])[M.length].2 = pu at g1
              go_wp2_with (first
                | (go_at_call 16; (with_reducible refine CA2.out.mono ?_); rintro e w' ⟨rfl, rfl⟩)
                | (go_at_call 16; (with_reducible refine CB2.out.mono ?_); rintro e w' ⟨rfl, rfl⟩))
              refine ⟨⟨k + 1, by omega, by go_num, by rw [HS1.out], ?_, HB.out.setCell (p := ⟨g, M.length * 2 + 1, none⟩) hgb _⟩, hM⟩
              rw [HS1.out, ← cellsR_last, List.length_append]
              exact HQ.out.1
          · cases op
            · have HS1 : Hid (accL S (k + 1) = (O ++ [(n, n)], true)) := hS1
              rw [HS1.out] at hL1
              clear hS1
              go_wp2_with (first
                | (go_at_call 16; (with_reducible refine CA2.out.mono ?_); rintro e w' ⟨rfl, rfl⟩)
                | (go_at_call 16; (with_reducible refine CB2.out.mono ?_); rintro e w' ⟨rfl, rfl⟩)
                | (at_builtin; refine wpList_append2 rfl (.tmp 69) (.tmp 73) 22 rfl w.heap.size 32 i0 (.agg #[.int .i64 0, .int .i64 0]) 16 Tryz.underlying22 hi hz0 hz1 hz2 rfl _ _ _ rfl hown _ _ rfl rfl rfl rfl (by omega) hle ?_; intro v1 w1 o1 b1 n1))
              refine ⟨⟨k + 1, by omega, by go_num, by rw [HS1.out], ?_, HB.out.trans b1⟩, hM⟩
              rw [HS1.out, List.length_append, cellsR_append]
              exact o1
            · obtain ⟨M, p, hMp⟩ := HO1.out rfl
              simp only at hMp
              subst hMp
              have HS1 : Hid (accL S (k + 1) = (M ++ [(p.1, n)], true)) := by rw [← setTop_snoc]; exact hS1
              clear hS1
              obtain ⟨g, oc, rfl, hgb, hcells⟩ := owns_pos hown (by simp)
              have gf := hown.frozenAt (M.length * 2 + 1)
              have HQ := Lib.hid (hown.stored (M.length * 2 + 1) (.int .i64 n))
              have g1 := hcells (M.length * 2 + 1) (by simp; omega)
              rw [(cellsR_at (M ++ [p]) M.length (by simp)).2] at g1
              have hML : (M ++ [p]).length = M.length + 1 := by simp
              rw [hML]
              rw [hML] at HQ
              clear hcells hown
              generalize (M ++ [p])[M.length].2 = pu at g1
              go_wp2_with (first
                | (go_at_call 16; (with_reducible refine CA2.out.mono ?_); rintro e w' ⟨rfl, rfl⟩)
                | (go_at_call 16; (with_reducible refine CB2.out.mono ?_); rintro e w' ⟨rfl, rfl⟩))
              refine ⟨⟨k + 1, by omega, by go_num, by rw [HS1.out], ?_, HB.out.setCell (p := ⟨g, M.length * 2 + 1, none⟩) hgb _⟩, hM⟩
              rw [HS1.out, ← cellsR_last, List.length_append]
              exact HQ.out.1
      · cases xa
        · cases xb
          · have HS1 : Hid (accL S (k + 1) = (O, false)) := hS1
            clear hS1
            go_wp2_with (first
              | (go_at_call 16; (with_reducible refine CA2.out.mono ?_); rintro e w' ⟨rfl, rfl⟩)
              | (go_at_call 16; (with_reducible refine CB2.out.mono ?_); rintro e w' ⟨rfl, rfl⟩))
            refine ⟨⟨k + 1, by omega, by go_num, by rw [HS1.out], ?_, HB.out⟩, hM⟩
            rw [HS1.out]
            exact hown
          · have HS1 : Hid (accL S (k + 1) = (O, false)) := hS1
            clear hS1
            go_wp2_with (first
              | (go_at_call 16; (with_reducible refine CA2.out.mono ?_); rintro e w' ⟨rfl, rfl⟩)
              | (go_at_call 16; (with_reducible refine CB2.out.mono ?_); rintro e w' ⟨rfl, rfl⟩))
            refine ⟨⟨k + 1, by omega, by go_num, by rw [HS1.out], ?_, HB.out⟩, hM⟩
            rw [HS1.out]
            exact hown
        · cases xb
          · cases op
            · have HS1 : Hid (accL S (k + 1) = (O ++ [(n, n)], true)) := hS1
              rw [HS1.out] at hL1
              clear hS1
              go_wp2_with (first
                | (go_at_call 16; (with_reducible refine CA2.out.mono ?_); rintro e w' ⟨rfl, rfl⟩)
                | (go_at_call 16; (with_reducible refine CB2.out.mono ?_); rintro e w' ⟨rfl, rfl⟩)
                | (at_builtin; refine wpList_append2 rfl (.tmp 69) (.tmp 73) 22 rfl w.heap.size 32 i0 (.agg #[.int .i64 0, .int .i64 0]) 16 Tryz.underlying22 hi hz0 hz1 hz2 rfl _ _ _ rfl hown _ _ rfl rfl rfl rfl (by omega) hle ?_; intro v1 w1 o1 b1 n1))
              refine ⟨⟨k + 1, by omega, by go_num, by rw [HS1.out], ?_, HB.out.trans b1⟩, hM⟩
              rw [HS1.out, List.length_append, cellsR_append]
              exact o1
            · obtain ⟨M, p, hMp⟩ := HO1.out rfl
              simp only at hMp
              subst hMp
              have HS1 : Hid (accL S (k + 1) = (M ++ [(p.1, n)], true)) := by rw [← setTop_snoc]; exact hS1
              clear hS1
              obtain ⟨g, oc, rfl, hgb, hcells⟩ := owns_pos hown (by simp)
              have gf := hown.frozenAt (M.length * 2 + 1)
              have HQ := Lib.hid (hown.stored (M.length * 2 + 1) (.int .i64 n))
              have g1 := hcells (M.length * 2 + 1) (by simp; omega)
              rw [(cellsR_at (M ++ [p]) M.length (by simp)).2] at g1
              have hML : (M ++ [p]).length = M.length + 1 := by simp
              rw [hML]
              rw [hML] at HQ
              clear hcells hown
              generalize (M ++ [p])[M.length].2 = pu at g1
              go_wp2_with (first
                | (go_at_call 16; (with_reducible refine CA2.out.mono ?_); rintro e w' ⟨rfl, rfl⟩)
                | (go_at_call 16; (with_reducible refine CB2.out.mono ?_); rintro e w' ⟨rfl, rfl⟩))
              refine ⟨⟨k + 1, by omega, by go_num, by rw [HS1.out], ?_, HB.out.setCell (p := ⟨g, M.length * 2 + 1, none⟩) hgb _⟩, hM⟩
              rw [HS1.out, ← cellsR_last, List.length_append]
              exact HQ.out.1
          · have HS1 : Hid (accL S (k + 1) = (O, false)) := hS1
            clear hS1
            go_wp2_with (first
              | (go_at_call 16; (with_reducible refine CA2.out.mono ?_); rintro e w' ⟨rfl, rfl⟩)
              | (go_at_call 16; (with_reducible refine CB2.out.mono ?_); rintro e w' ⟨rfl, rfl⟩))
            refine ⟨⟨k + 1, by omega, by go_num, by rw [HS1.out], ?_, HB.out⟩, hM⟩
            rw [HS1.out]
            exact hown
    · obtain rfl : k = 401 := by omega
      rw [HC.out] at hown
      obtain ⟨oa, oc, rfl, _⟩ := (SlAt.of_own hown).shape
      go_wp2
      go_ret
      exact ⟨_, _, rfl, RgAt.own hown, HB.out, fun b hb => (hown.lt b hb).1⟩
theorem list_c (va vb : Value) (a b : List Rg) (way : Int) (hway : way = 1 ∨ way = 2 ∨ way = 3) (w : World) (ha : RgAt w va a) (hb : RgAt w vb b) (hla : a.length ≤ 4096) (hlb : b.length ≤ 4096) :
    Calls Tryz.prog 45 #[va, vb, .int .i64 way] w (RetR (canon (wayS way a b)) w) := (list_n va vb a b way hway w ha hb hla hlb).mono fun _ _ h => h.toR
end Go.Proofs.YtajooiainglpmaaGreat
namespace Go.Proofs.YtajooiainglpmaaGreat
open Go.RowKit

set_option maxRecDepth 100000 in
set_option maxHeartbeats 1600000 in
theorem meet_n (va vb : Value) (a b : List Rg) (w : World) (ha : RgAt w va a) (hb : RgAt w vb b) (hla : a.length ≤ 4096) (hlb : b.length ≤ 4096) :
    Calls Tryz.prog 36 #[va, vb] w (RetN (meetL a b) w) := by
  obtain ⟨i0, hi, hz0, hz1, hz2⟩ := info_parts Tryz.infoRg
  obtain ⟨ao, cap, rfl, _⟩ := ha.shape
  obtain ⟨ao2, cap2, rfl, _⟩ := hb.shape
  have CA : Hid (∀ W, Below w.heap.size w W → Calls Tryz.prog 31 #[.slice ao a.length cap] W (RetR (norm a) W)) := fun W h => norm_c _ _ W (ha.below h) hla
  have CB : Hid (∀ W, Below w.heap.size w W → Calls Tryz.prog 31 #[.slice ao2 b.length cap2] W (RetR (norm b) W)) := fun W h => norm_c _ _ W (hb.below h) hlb
  have HN : Hid (meetM (norm a) (norm b) = meetL a b) := meetM_norm a b
  have hln : (norm a).length ≤ 201 := norm_len a
  have hln2 : (norm b).length ≤ 201 := norm_len b
  have hlm : (meetL a b).length ≤ 201 := canon_len _
  clear ha hb
  generalize hNA : norm a = na at CA HN hln
  generalize hNB : norm b = nb at CB HN hln2
  generalize hME : meetL a b = me at HN hlm ⊢
  clear hNA hNB hME
  go_enter Tryz.func36, Tryz.ntmps36
  have hB0 : Hid (Below w.heap.size w w) := Below.refl _ _
  go_wp2_with (first
    | (go_at_call 31; (with_reducible refine (CA.out _ hB0.out).mono ?_); rintro e w1 ⟨a1, c1, rfl, hr1, hb1⟩; have HR1 := Lib.hid hr1; have HB1 := Lib.hid hb1; clear hr1 hb1)
    | (go_at_call 31; (with_reducible refine (CB.out _ HB1.out).mono ?_); rintro e W ⟨a2, c2, rfl, hr2, hb2⟩; have HR2 := Lib.hid hr2; have HR1' := Lib.hid (HR1.out.below hb2); have HW := Lib.hid (HB1.out.trans (hb2.mono HB1.out.size)); clear hr2 hb2))
  go_loopw [5, 6, 7] (fun x y o wr => ∃ xs ys O : List Rg, ∃ ax cx ay cy, x = .slice ax xs.length cx ∧ y = .slice ay ys.length cy ∧ RgAt W x xs ∧ RgAt W y ys ∧ O ++ meetM xs ys = me ∧ wr.ownsRow W.heap.size 32 2 o O.length (cellsR O) ∧ Below W.heap.size W wr) (fun x y _ _ => slen x + slen y)
  case atStart => exact ⟨na, nb, [], _, _, _, _, rfl, rfl, HR1'.out, HR2.out, HN.out, World.ownsRow_nil _ _ _ _, Below.refl _ _⟩
  case round =>
    obtain ⟨xs, ys, O, ax, cx, ay, cy, rfl, rfl, hx, hy, hm, hown, hbel⟩ := hrel
    cases xs with
    | nil =>
      rw [meetM_nil, List.append_nil] at hm
      subst hm
      obtain ⟨oa, oc, rfl, _⟩ := (SlAt.of_own hown).shape
      rw [show ([] : List Rg).length = 0 from rfl] at hx ⊢
      go_wp2
      go_ret
      exact ⟨_, _, rfl, RgAt.own hown, HW.out.trans (hbel.mono HW.out.size), fun _ hb => Nat.le_trans HW.out.size (own_ge hown hb)⟩
    | cons r xs =>
      cases ys with
      | nil =>
        rw [meetM_nil2, List.append_nil] at hm
        subst hm
        obtain ⟨oa, oc, rfl, _⟩ := (SlAt.of_own hown).shape
        rw [show ([] : List Rg).length = 0 from rfl] at hy ⊢
        rw [List.length_cons] at hx ⊢
        go_wp2
        go_ret
        exact ⟨_, _, rfl, RgAt.own hown, HW.out.trans (hbel.mono HW.out.size), fun _ hb => Nat.le_trans HW.out.size (own_ge hown hb)⟩
      | cons s ys =>
        obtain ⟨bx, ox, cx', he, hcx, hbx, hc⟩ := RgAt.at hx (by simp)
        simp only [Value.slice.injEq, true_and] at he
        obtain ⟨rfl, rfl⟩ := he
        obtain ⟨by', oy, cy', he, hcy, hby, hd⟩ := RgAt.at hy (by simp)
        simp only [Value.slice.injEq, true_and] at he
        obtain ⟨rfl, rfl⟩ := he
        have e1 := hc 0 (by simp)
        have e2 := hd 0 (by simp)
        simp only [Nat.zero_mul, Nat.add_zero, List.getElem_cons_zero] at e1 e2
        clear hc hd
        have HX := Lib.hid (fun (W' : World) (h : Below W.heap.size W W') => And.intro ((h.cell (p := ⟨bx, ox, none⟩) hbx).trans e1.1) (And.intro ((h.cell (p := ⟨bx, ox + 1, none⟩) hbx).trans e1.2)
          (And.intro ((h.cell (p := ⟨by', oy, none⟩) hby).trans e2.1) ((h.cell (p := ⟨by', oy + 1, none⟩) hby).trans e2.2))))
        clear e1 e2
        have HSX := Lib.hid hx
        have HSY := Lib.hid hy
        have HM := Lib.hid hm
        have HB := Lib.hid hbel
        clear hx hy hm hbel
        rw [List.length_cons] at hcx hcy ⊢
        rw [List.length_cons]
        have hx0 : 0 < xs.length + 1 := by omega
        obtain ⟨oa, oc, rfl, _⟩ := (SlAt.of_own hown).shape
        have hy0 : 0 < ys.length + 1 := by omega
        rw [meetM_cons] at HM
        obtain ⟨q1, q2, q3, q4⟩ := HX.out _ HB.out
        have hOl : O.length ≤ 201 := by have := congrArg List.length HM.out; simp at this; omega
        have hle : W.heap.size ≤ wr.heap.size := HB.out.size
        by_cases h1 : max r.1 s.1 ≤ min r.2 s.2
        · rw [if_pos h1] at HM
          by_cases h2 : r.2 < s.2
          · rw [if_pos h2] at HM
            rcases Nat.lt_or_ge 1 cx with h3 | h3
            · go_wp2
              go_region
              have HB2 : Hid (Below W.heap.size W wr.drew) := below_drewN HB.out 1
              have hown2 : wr.drew.ownsRow W.heap.size 32 2 (.slice oa O.length oc) O.length (cellsR O) := hown
              have hle2 : W.heap.size ≤ wr.drew.heap.size := hle
              clear q1 q2 q3 q4
              obtain ⟨q1, q2, q3, q4⟩ := HX.out _ HB2.out
              generalize wr.drew = w2 at HB2 hown2 hle2 q1 q2 q3 q4 ⊢
              go_wp2_with (at_builtin; refine wpList_append2 rfl (.tmp 43) (.tmp 47) 22 rfl W.heap.size 32 i0 (.agg #[.int .i64 0, .int .i64 0]) 16 Tryz.underlying22 hi hz0 hz1 hz2 rfl _ _ _ rfl hown2 _ _ rfl rfl rfl rfl (by omega) hle2 ?_; intro v1 w1 o1 b1 n1)
              obtain ⟨p1, p2, p3, p4⟩ := HX.out w1 (HB2.out.trans b1)
              go_quiet (fail)
              go_wp2
              refine ⟨⟨xs, s :: ys, O ++ [(max r.1 s.1, min r.2 s.2)], _, _, _, _, rfl, rfl, RgAt.tail_lt HSX.out, HSY.out, by rw [List.append_assoc]; exact HM.out, by rw [List.length_append, cellsR_append]; exact o1, below_drewN (HB2.out.trans b1) _⟩, ?_⟩
              simp only [slen_slice]
              omega
            · obtain rfl : cx = 1 := by omega
              have hxs : xs = [] := List.eq_nil_of_length_eq_zero (by omega)
              subst hxs
              rw [show ([] : List Rg).length = 0 from rfl] at * 
              go_wp2
              go_region
              have HB2 : Hid (Below W.heap.size W wr.drew) := below_drewN HB.out 1
              have hown2 : wr.drew.ownsRow W.heap.size 32 2 (.slice oa O.length oc) O.length (cellsR O) := hown
              have hle2 : W.heap.size ≤ wr.drew.heap.size := hle
              clear q1 q2 q3 q4
              obtain ⟨q1, q2, q3, q4⟩ := HX.out _ HB2.out
              generalize wr.drew = w2 at HB2 hown2 hle2 q1 q2 q3 q4 ⊢
              go_wp2_with (at_builtin; refine wpList_append2 rfl (.tmp 43) (.tmp 47) 22 rfl W.heap.size 32 i0 (.agg #[.int .i64 0, .int .i64 0]) 16 Tryz.underlying22 hi hz0 hz1 hz2 rfl _ _ _ rfl hown2 _ _ rfl rfl rfl rfl (by omega) hle2 ?_; intro v1 w1 o1 b1 n1)
              obtain ⟨p1, p2, p3, p4⟩ := HX.out w1 (HB2.out.trans b1)
              go_quiet (fail)
              go_wp2
              refine ⟨⟨[], s :: ys, O ++ [(max r.1 s.1, min r.2 s.2)], _, _, _, _, rfl, rfl, RgAt.empty 0, HSY.out, by rw [List.append_assoc]; exact HM.out, by rw [List.length_append, cellsR_append]; exact o1, below_drewN (HB2.out.trans b1) _⟩, ?_⟩
              simp only [slen_slice]
              omega
          · rw [if_neg h2] at HM
            have h2' : s.2 ≤ r.2 := by omega
            have h2d : decide (r.2 < s.2) = false := by simpa using h2
            rcases Nat.lt_or_ge 1 cy with h3 | h3
            · go_wp2
              go_region
              have HB2 : Hid (Below W.heap.size W wr.drew) := below_drewN HB.out 1
              have hown2 : wr.drew.ownsRow W.heap.size 32 2 (.slice oa O.length oc) O.length (cellsR O) := hown
              have hle2 : W.heap.size ≤ wr.drew.heap.size := hle
              clear q1 q2 q3 q4
              obtain ⟨q1, q2, q3, q4⟩ := HX.out _ HB2.out
              generalize wr.drew = w2 at HB2 hown2 hle2 q1 q2 q3 q4 ⊢
              go_wp2_with (at_builtin; refine wpList_append2 rfl (.tmp 43) (.tmp 47) 22 rfl W.heap.size 32 i0 (.agg #[.int .i64 0, .int .i64 0]) 16 Tryz.underlying22 hi hz0 hz1 hz2 rfl _ _ _ rfl hown2 _ _ rfl rfl rfl rfl (by omega) hle2 ?_; intro v1 w1 o1 b1 n1)
              obtain ⟨p1, p2, p3, p4⟩ := HX.out w1 (HB2.out.trans b1)
              go_quiet (fail)
              go_wp2
              refine ⟨⟨r :: xs, ys, O ++ [(max r.1 s.1, min r.2 s.2)], _, _, _, _, rfl, rfl, HSX.out, RgAt.tail_lt HSY.out, by rw [List.append_assoc]; exact HM.out, by rw [List.length_append, cellsR_append]; exact o1, below_drewN (HB2.out.trans b1) _⟩, ?_⟩
              simp only [slen_slice]
              omega
            · obtain rfl : cy = 1 := by omega
              have hxs : ys = [] := List.eq_nil_of_length_eq_zero (by omega)
              subst hxs
              rw [show ([] : List Rg).length = 0 from rfl] at * 
              go_wp2
              go_region
              have HB2 : Hid (Below W.heap.size W wr.drew) := below_drewN HB.out 1
              have hown2 : wr.drew.ownsRow W.heap.size 32 2 (.slice oa O.length oc) O.length (cellsR O) := hown
              have hle2 : W.heap.size ≤ wr.drew.heap.size := hle
              clear q1 q2 q3 q4
              obtain ⟨q1, q2, q3, q4⟩ := HX.out _ HB2.out
              generalize wr.drew = w2 at HB2 hown2 hle2 q1 q2 q3 q4 ⊢
              go_wp2_with (at_builtin; refine wpList_append2 rfl (.tmp 43) (.tmp 47) 22 rfl W.heap.size 32 i0 (.agg #[.int .i64 0, .int .i64 0]) 16 Tryz.underlying22 hi hz0 hz1 hz2 rfl _ _ _ rfl hown2 _ _ rfl rfl rfl rfl (by omega) hle2 ?_; intro v1 w1 o1 b1 n1)
              obtain ⟨p1, p2, p3, p4⟩ := HX.out w1 (HB2.out.trans b1)
              go_quiet (fail)
              go_wp2
              refine ⟨⟨r :: xs, [], O ++ [(max r.1 s.1, min r.2 s.2)], _, _, _, _, rfl, rfl, HSX.out, RgAt.empty 0, by rw [List.append_assoc]; exact HM.out, by rw [List.length_append, cellsR_append]; exact o1, below_drewN (HB2.out.trans b1) _⟩, ?_⟩
              simp only [slen_slice]
              omega
        · rw [if_neg h1, List.nil_append] at HM
          have h1' : min r.2 s.2 < max r.1 s.1 := by omega
          by_cases h2 : r.2 < s.2
          · rw [if_pos h2] at HM
            rcases Nat.lt_or_ge 1 cx with h3 | h3
            · go_wp2
              go_region
              have HB2 : Hid (Below W.heap.size W wr.drew) := below_drewN HB.out 1
              have hown2 : wr.drew.ownsRow W.heap.size 32 2 (.slice oa O.length oc) O.length (cellsR O) := hown
              have hle2 : W.heap.size ≤ wr.drew.heap.size := hle
              clear q1 q2 q3 q4
              obtain ⟨q1, q2, q3, q4⟩ := HX.out _ HB2.out
              generalize wr.drew = w2 at HB2 hown2 hle2 q1 q2 q3 q4 ⊢
              go_wp2
              go_quiet (fail)
              go_wp2
              refine ⟨⟨xs, s :: ys, O, _, _, _, _, rfl, rfl, RgAt.tail_lt HSX.out, HSY.out, HM.out, hown2, below_drewN (HB2.out) _⟩, ?_⟩
              simp only [slen_slice]
              omega
            · obtain rfl : cx = 1 := by omega
              have hxs : xs = [] := List.eq_nil_of_length_eq_zero (by omega)
              subst hxs
              rw [show ([] : List Rg).length = 0 from rfl] at * 
              go_wp2
              go_region
              have HB2 : Hid (Below W.heap.size W wr.drew) := below_drewN HB.out 1
              have hown2 : wr.drew.ownsRow W.heap.size 32 2 (.slice oa O.length oc) O.length (cellsR O) := hown
              have hle2 : W.heap.size ≤ wr.drew.heap.size := hle
              clear q1 q2 q3 q4
              obtain ⟨q1, q2, q3, q4⟩ := HX.out _ HB2.out
              generalize wr.drew = w2 at HB2 hown2 hle2 q1 q2 q3 q4 ⊢
              go_wp2
              go_quiet (fail)
              go_wp2
              refine ⟨⟨[], s :: ys, O, _, _, _, _, rfl, rfl, RgAt.empty 0, HSY.out, HM.out, hown2, below_drewN (HB2.out) _⟩, ?_⟩
              simp only [slen_slice]
              omega
          · rw [if_neg h2] at HM
            have h2' : s.2 ≤ r.2 := by omega
            have h2d : decide (r.2 < s.2) = false := by simpa using h2
            rcases Nat.lt_or_ge 1 cy with h3 | h3
            · go_wp2
              go_region
              have HB2 : Hid (Below W.heap.size W wr.drew) := below_drewN HB.out 1
              have hown2 : wr.drew.ownsRow W.heap.size 32 2 (.slice oa O.length oc) O.length (cellsR O) := hown
              have hle2 : W.heap.size ≤ wr.drew.heap.size := hle
              clear q1 q2 q3 q4
              obtain ⟨q1, q2, q3, q4⟩ := HX.out _ HB2.out
              generalize wr.drew = w2 at HB2 hown2 hle2 q1 q2 q3 q4 ⊢
              go_wp2
              go_quiet (fail)
              go_wp2
              refine ⟨⟨r :: xs, ys, O, _, _, _, _, rfl, rfl, HSX.out, RgAt.tail_lt HSY.out, HM.out, hown2, below_drewN (HB2.out) _⟩, ?_⟩
              simp only [slen_slice]
              omega
            · obtain rfl : cy = 1 := by omega
              have hxs : ys = [] := List.eq_nil_of_length_eq_zero (by omega)
              subst hxs
              rw [show ([] : List Rg).length = 0 from rfl] at * 
              go_wp2
              go_region
              have HB2 : Hid (Below W.heap.size W wr.drew) := below_drewN HB.out 1
              have hown2 : wr.drew.ownsRow W.heap.size 32 2 (.slice oa O.length oc) O.length (cellsR O) := hown
              have hle2 : W.heap.size ≤ wr.drew.heap.size := hle
              clear q1 q2 q3 q4
              obtain ⟨q1, q2, q3, q4⟩ := HX.out _ HB2.out
              generalize wr.drew = w2 at HB2 hown2 hle2 q1 q2 q3 q4 ⊢
              go_wp2
              go_quiet (fail)
              go_wp2
              refine ⟨⟨r :: xs, [], O, _, _, _, _, rfl, rfl, HSX.out, RgAt.empty 0, HM.out, hown2, below_drewN (HB2.out) _⟩, ?_⟩
              simp only [slen_slice]
              omega
theorem meet_c (va vb : Value) (a b : List Rg) (w : World) (ha : RgAt w va a) (hb : RgAt w vb b) (hla : a.length ≤ 4096) (hlb : b.length ≤ 4096) :
    Calls Tryz.prog 36 #[va, vb] w (RetR (meetL a b) w) := (meet_n va vb a b w ha hb hla hlb).mono fun _ _ h => h.toR
end Go.Proofs.YtajooiainglpmaaGreat
namespace Go.Proofs.YtajooiainglpmaaGreat
open Go.RowKit

set_option maxRecDepth 100000 in
theorem neqRg (x y : Rg) (w : World) : (binOp .neq 32 (.agg #[.int .i64 x.1, .int .i64 x.2]) (.agg #[.int .i64 y.1, .int .i64 y.2])).run Tryz.prog w = .ok (.bool (decide (x ≠ y))) w := by
  have u3 := Tryz.underlying3
  have a3 := Tryz.isAgg3
  have z3 := Tryz.sizeOf3
  have hS : Tryz.prog.underlying 32 = some (.struct (Tryz.prog.fieldsOf 32)) := by kernel_rfl
  have hp : Tryz.prog.stoodInHeld 32 = false := by kernel_rfl
  rw [run_neq_struct, show (10000 : Nat) = 9999 + 1 from rfl, run_equalIn_agg w 9999 32 _ _ hS hp]
  simp only [Program.fieldsOf, Tryz.underlying32]
  go_simp
  obtain ⟨x1, x2⟩ := x
  obtain ⟨y1, y2⟩ := y
  by_cases h1 : x1 = y1 <;> by_cases h2 : x2 = y2 <;> simp [h1, h2]
theorem guardRg (o : BinOp) (a b : Operand) (xs ys : Array Value) (w : World) : (eqGuard o 32 a b (.agg xs) (.agg ys)).run Tryz.prog w = .ok () w := run_eqGuard_agg w o 32 a b xs ys (by kernel_rfl)
end Go.Proofs.YtajooiainglpmaaGreat
namespace Go.Proofs.YtajooiainglpmaaGreat
open Go.RowKit

set_option maxRecDepth 100000 in
set_option maxHeartbeats 800000 in
theorem compl_c (va : Value) (a : List Rg) (w : World) (ha : RgAt w va a) (hla : a.length ≤ 4096) :
    Calls Tryz.prog 137 #[va] w (RetR (complL a) w) := by
  obtain ⟨i0, hi, hz0, hz1, hz2⟩ := info_parts Tryz.infoRg
  obtain ⟨ao, cap, rfl, _⟩ := ha.shape
  have CA : Hid (Calls Tryz.prog 31 #[.slice ao a.length cap] w (RetR (norm a) w)) := norm_c _ _ w ha hla
  have HN : Hid (complW (-200) (norm a) = complL a) := complW_norm a
  have HBD : Hid (∀ p ∈ norm a, -200 ≤ p.1 ∧ p.1 ≤ p.2 ∧ p.2 ≤ 200) := norm_bounds a
  have hln : (norm a).length ≤ 201 := norm_len a
  have hlm : (complL a).length ≤ 201 := canon_len _
  clear ha
  generalize hNA : norm a = na at CA HN hln HBD
  generalize hME : complL a = me at HN hlm ⊢
  clear hNA hME
  go_enter Tryz.func137, Tryz.ntmps137
  go_wp2_with (first
    | (go_at_call 31; (with_reducible refine CA.out.mono ?_); rintro e W ⟨a1, c1, rfl, hr1, hb1⟩; have HR1 := Lib.hid hr1; have HW := Lib.hid hb1; clear hr1 hb1))
  go_loopw [3, 4, 10] (fun o f s wr => ∃ k : Nat, ∃ O : List Rg, ∃ fz : Int, k ≤ na.length ∧ s = .int .i64 k ∧ f = .int .i64 fz ∧ -200 ≤ fz ∧ fz ≤ 201 ∧ O ++ complW fz (na.drop k) = me ∧ wr.ownsRow W.heap.size 32 2 o O.length (cellsR O) ∧ Below W.heap.size W wr) (fun _ _ s _ => na.length - (intOf s).toNat)
  case atStart => exact ⟨0, [], -200, by omega, rfl, rfl, by decide, by decide, HN.out, World.ownsRow_nil _ _ _ _, Below.refl _ _⟩
  case round =>
    obtain ⟨k, O, fz, hk, rfl, rfl, hf1, hf2, hm, hown, hbel⟩ := hrel
    have hOl : O.length ≤ 201 := by have := congrArg List.length hm; simp at this; omega
    have hle : W.heap.size ≤ wr.heap.size := hbel.size
    have HB := Lib.hid hbel
    clear hbel
    by_cases hlt : k < na.length
    · obtain ⟨b, off, c', he, hcap, hbs, hc⟩ := RgAt.at HR1.out (by omega)
      simp only [Value.slice.injEq, true_and] at he
      obtain ⟨rfl, rfl⟩ := he
      obtain ⟨c1, c2⟩ := hc k hlt
      rw [← HB.out.cell (p := ⟨b, off + k * 2, none⟩) hbs] at c1
      rw [← HB.out.cell (p := ⟨b, off + k * 2 + 1, none⟩) hbs] at c2
      have hbd := HBD.out _ (List.getElem_mem hlt)
      rw [List.drop_eq_getElem_cons hlt, complW] at hm
      obtain ⟨r, hr⟩ : ∃ r, r = na[k] := ⟨_, rfl⟩
      rw [← hr] at c1 c2 hm hbd
      have HM := Lib.hid hm
      clear hc hr hm
      obtain ⟨hd1, hd2, hd3⟩ := hbd
      have hbe : b ≠ wr.heap.size := by have := hbs; omega
      by_cases hx : fz < r.1
      · rw [if_pos hx] at HM
        go_wp2_with (at_builtin; refine wpList_append2g rfl (.tmp 18) (.tmp 24) 22 rfl W.heap.size 32 i0 (.agg #[.int .i64 0, .int .i64 0]) 16 Tryz.underlying22 hi hz0 hz1 hz2 rfl _ _ _ rfl (hown.alloc _) _ _ rfl (by simp) rfl rfl (by omega) (by simp; omega) ?_; intro v1 w1 o1 b1 n1; have c3 := n1 wr.heap.size 1 (.int .i64 r.2) (fun he => by have := (hown.lt _ he).2; omega) (by simp); clear n1)
        refine ⟨⟨k + 1, O ++ [(fz, r.1 - 1)], r.2 + 1, by omega, by go_num, rfl, by omega, by omega, ?_, ?_, (HB.out.alloc hle _).trans b1⟩, by simp [intOf]; omega⟩
        · rw [List.append_assoc]; exact HM.out
        · rw [List.length_append, cellsR_append]; exact o1
      · rw [if_neg hx, List.nil_append] at HM
        go_wp2
        exact ⟨⟨k + 1, O, r.2 + 1, by omega, by go_num, rfl, by omega, by omega, HM.out, hown.alloc _, HB.out.alloc hle _⟩, by simp [intOf]; omega⟩
    · obtain rfl : k = na.length := by omega
      rw [List.drop_length, complW] at hm
      have HM := Lib.hid hm
      clear hm
      obtain ⟨oa, oc, rfl, _⟩ := (SlAt.of_own hown).shape
      by_cases hx : fz ≤ 200
      · rw [if_pos hx] at HM
        go_wp2_with (at_builtin; refine wpList_append2 rfl (.tmp 32) (.tmp 35) 22 rfl W.heap.size 32 i0 (.agg #[.int .i64 0, .int .i64 0]) 16 Tryz.underlying22 hi hz0 hz1 hz2 rfl _ _ _ rfl hown _ _ rfl (by simp) rfl rfl (by omega) HB.out.size ?_; intro v1 w1 o1 b1 n1)
        go_ret
        have o2 : w1.ownsRow W.heap.size 32 2 v1 me.length (cellsR me) := by
          rw [← HM.out, List.length_append, cellsR_append]; exact o1
        obtain ⟨oa, oc, rfl, _⟩ := (SlAt.of_own o2).shape
        exact ⟨_, _, rfl, RgAt.own o2, HW.out.trans ((HB.out.trans b1).mono HW.out.size)⟩
      · rw [if_neg hx, List.append_nil] at HM
        have he := HM.out
        subst he
        go_wp2
        go_ret
        exact ⟨_, _, rfl, RgAt.own hown, HW.out.trans (HB.out.mono HW.out.size)⟩
end Go.Proofs.YtajooiainglpmaaGreat
namespace Go.Proofs.YtajooiainglpmaaGreat
open Go.RowKit

theorem norm_bnd (S : Int → Bool) : canon S = canon S := rfl
theorem minus_eq (a b : List Rg) : meetL a (complL b) = minusL a b := by
  unfold meetL minusL
  exact canon_congr fun n h1 h2 => by rw [complL, canon_mem]; simp [h1, h2]

theorem minus_c (va vb : Value) (a b : List Rg) (w : World) (ha : RgAt w va a) (hb : RgAt w vb b) (hla : a.length ≤ 4096) (hlb : b.length ≤ 4096) :
    Calls Tryz.prog 134 #[va, vb] w (RetR (minusL a b) w) := by
  obtain ⟨ao, cap, rfl, _⟩ := ha.shape
  obtain ⟨ao2, cap2, rfl, _⟩ := hb.shape
  have HA := Lib.hid ha
  have CB := Lib.hid (compl_c _ b w hb hlb)
  have HE := Lib.hid (minus_eq a b)
  have hlc : (complL b).length ≤ 201 := canon_len _
  clear ha hb
  generalize complL b = cb at CB HE hlc
  generalize minusL a b = me at HE ⊢
  go_enter Tryz.func134, Tryz.ntmps134
  go_wp2_with (first
    | (go_at_call 137; (with_reducible refine CB.out.mono ?_); rintro e W ⟨a1, c1, rfl, hr1, hb1⟩; have CM := Lib.hid (meet_c _ _ a cb W (HA.out.below hb1) hr1 hla (by omega)); rw [HE.out] at CM; have HW := Lib.hid hb1; clear hr1 hb1)
    | (go_at_call 36; (with_reducible refine CM.out.mono ?_); rintro e W2 ⟨a2, c2, rfl, hr2, hb2⟩))
  go_ret
  exact ⟨_, _, rfl, hr2, HW.out.trans (hb2.mono HW.out.size)⟩

theorem sizeL_bounds : ∀ (l : List Rg) (lo : Int), lo ≤ 202 → NormFrom lo l → 0 ≤ sizeL l ∧ sizeL l ≤ 202 - lo
  | [], lo, h, _ => by simp [sizeL]; omega
  | r :: l, lo, h, ⟨h1, h2, h3, h4⟩ => by
    have := sizeL_bounds l (r.2 + 2) (by omega) h4
    simp only [sizeL]; omega
theorem NormFrom.left : ∀ {l m : List Rg} {lo : Int}, NormFrom lo (l ++ m) → NormFrom lo l
  | [], _, _, _ => trivial
  | _ :: _, _, _, ⟨h1, h2, h3, h4⟩ => ⟨h1, h2, h3, h4.left⟩
theorem NormFrom.take {l : List Rg} {lo : Int} (h : NormFrom lo l) (k : Nat) : NormFrom lo (l.take k) := by
  rw [← List.take_append_drop k l] at h; exact h.left

set_option maxRecDepth 100000 in
set_option maxHeartbeats 800000 in
theorem size_c (va : Value) (a : List Rg) (w : World) (ha : RgAt w va a) (hla : a.length ≤ 4096) :
    Calls Tryz.prog 138 #[va] w fun e w' => e = .returned (.int .i64 (sizeL (norm a))) ∧ Below w.heap.size w w' := by
  obtain ⟨ao, cap, rfl, _⟩ := ha.shape
  have CA : Hid (Calls Tryz.prog 31 #[.slice ao a.length cap] w (RetR (norm a) w)) := norm_c _ _ w ha hla
  have HBD : Hid (∀ p ∈ norm a, -200 ≤ p.1 ∧ p.1 ≤ p.2 ∧ p.2 ≤ 200) := norm_bounds a
  have HS : Hid (∀ k, 0 ≤ sizeL ((norm a).take k) ∧ sizeL ((norm a).take k) ≤ 402) := fun k => sizeL_bounds _ (-200) (by decide) ((norm_normal a).take k)
  have hln : (norm a).length ≤ 201 := norm_len a
  clear ha
  generalize hNA : norm a = na at CA hln HBD HS ⊢
  clear hNA
  go_enter Tryz.func138, Tryz.ntmps138
  go_wp2_with (first
    | (go_at_call 31; (with_reducible refine CA.out.mono ?_); rintro e W ⟨a1, c1, rfl, hr1, hb1⟩; have HR1 := Lib.hid hr1; have HW := Lib.hid hb1; clear hr1 hb1))
  go_loopw [3, 9] (fun f s wr => ∃ k : Nat, ∃ fz : Int, k ≤ na.length ∧ s = .int .i64 k ∧ f = .int .i64 fz ∧ fz = sizeL (na.take k) ∧ Below W.heap.size W wr) (fun _ s _ => na.length - (intOf s).toNat)
  case atStart => exact ⟨0, 0, by omega, rfl, rfl, rfl, Below.refl _ _⟩
  case round =>
    obtain ⟨k, fz, hk, rfl, rfl, hf, hbel⟩ := hrel
    have hle : W.heap.size ≤ wr.heap.size := hbel.size
    have HB := Lib.hid hbel
    have HF := Lib.hid hf
    have hfb := HS.out k
    rw [← HF.out] at hfb
    obtain ⟨hf1, hf2⟩ := hfb
    clear hbel hf
    by_cases hlt : k < na.length
    · obtain ⟨b, off, c', he, hcap, hbs, hc⟩ := RgAt.at HR1.out (by omega)
      simp only [Value.slice.injEq, true_and] at he
      obtain ⟨rfl, rfl⟩ := he
      obtain ⟨c1, c2⟩ := hc k hlt
      rw [← HB.out.cell (p := ⟨b, off + k * 2, none⟩) hbs] at c1
      rw [← HB.out.cell (p := ⟨b, off + k * 2 + 1, none⟩) hbs] at c2
      have hbd := HBD.out _ (List.getElem_mem hlt)
      have HT : Hid (sizeL (na.take (k + 1)) = fz + (na[k].2 - na[k].1 + 1)) := by
        show _ = _
        rw [List.take_succ_eq_append_getElem hlt, sizeL_append, HF.out]; simp only [sizeL]; omega
      obtain ⟨r, hr⟩ : ∃ r, r = na[k] := ⟨_, rfl⟩
      rw [← hr] at c1 c2 HT hbd
      clear hc hr
      obtain ⟨hd1, hd2, hd3⟩ := hbd
      have hbe : b ≠ wr.heap.size := by have := hbs; omega
      go_wp2
      refine ⟨⟨k + 1, fz + (r.2 - r.1 + 1), by omega, by go_num, by first | rfl | go_num, HT.out.symm, HB.out.alloc hle _⟩, by simp [intOf]; omega⟩
    · obtain rfl : k = na.length := by omega
      go_wp2
      go_ret
      exact ⟨ret_int (by rw [HF.out, List.take_length]), HW.out.trans (HB.out.mono HW.out.size)⟩
end Go.Proofs.YtajooiainglpmaaGreat
