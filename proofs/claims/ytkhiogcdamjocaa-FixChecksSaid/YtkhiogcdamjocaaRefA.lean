/-
  coneyref14.Has, .list, walked.
-/
import Derived.Test.YtkhiogcdamjocaaNorm
import Derived.Test.YtkhiogcdamjocaaPl3
namespace Go.Proofs.Ytkhiogcdamjocaa
open Go.RowKit

set_option maxRecDepth 100000 in
set_option maxHeartbeats 800000 in
theorem refHas_c (va : Value) (a : List Rg) (n : Int) (w : World) (ha : RgAt w va a) (hla : a.length ≤ 4096) :
    Calls Try.prog 64 #[va, .int .i64 n] w fun e w' => e = .returned (.bool (inD n && memL a n)) ∧ w = w' := by
  obtain ⟨ao, cap, rfl, _⟩ := ha.shape
  have HA := Lib.hid ha
  clear ha
  by_cases h1 : n < -200
  · go_enter Try.func64, Try.ntmps64
    go_wp2
    go_ret
    exact ⟨ret_bool (by symm; simp [inD]; omega), rfl⟩
  by_cases h2 : 200 < n
  · go_enter Try.func64, Try.ntmps64
    go_wp2
    go_ret
    exact ⟨ret_bool (by symm; simp [inD]; omega), rfl⟩
  have HI : Hid ((inD n && memL a n) = memL a n) := by show _ = _; simp [inD, show -200 ≤ n by omega, show n ≤ 200 by omega]
  rw [HI.out]
  clear HI
  go_enter Try.func64, Try.ntmps64
  go_wp2
  go_loop [5] (fun s => ∃ k : Nat, k ≤ a.length ∧ s = .int .i64 k ∧ memL a n = memL (a.drop k) n) (fun s => a.length - (intOf s).toNat)
  case atStart => exact ⟨0, by omega, rfl, rfl⟩
  case round =>
    obtain ⟨k, hk, rfl, hE⟩ := hrel
    by_cases hlt : k < a.length
    · obtain ⟨b, off, c', he, hcap, hbs, hc⟩ := RgAt.at HA.out (by omega)
      simp only [Value.slice.injEq, true_and] at he
      obtain ⟨rfl, rfl⟩ := he
      obtain ⟨c1, c2⟩ := hc k hlt
      rw [List.drop_eq_getElem_cons hlt, memL_cons] at hE
      obtain ⟨r, hr⟩ : ∃ r, r = a[k] := ⟨_, rfl⟩
      rw [← hr] at c1 c2 hE
      have HE := Lib.hid hE
      clear hc hr hE
      by_cases hx : r.1 ≤ n
      · by_cases hy : n ≤ r.2
        · go_wp2
          go_ret
          exact ⟨ret_bool (by rw [HE.out]; simp [hx, hy]), rfl⟩
        · go_wp2
          exact ⟨⟨k + 1, by omega, by go_num, by rw [HE.out]; simp [hx, hy]⟩, by simp [intOf]; omega⟩
      · go_wp2
        exact ⟨⟨k + 1, by omega, by go_num, by rw [HE.out]; simp [hx]⟩, by simp [intOf]; omega⟩
    · obtain rfl : k = a.length := by omega
      rw [List.drop_length, memL_nil] at hE
      have HE := Lib.hid hE
      clear hE
      go_wp2
      go_ret
      exact ⟨ret_bool (by rw [HE.out]), rfl⟩

/-- the list L, in new memory -/
def RetN (L : List Rg) (w : World) (e : Ending) (w' : World) : Prop := ∃ ao cap, e = .returned (.slice ao L.length cap) ∧ RgAt w' (.slice ao L.length cap) L ∧ Below w.heap.size w w' ∧ ∀ b, (Value.slice ao L.length cap).ownBlock = some b → w.heap.size ≤ b
theorem RetN.toR {L : List Rg} {w w' : World} {e : Ending} (h : RetN L w e w') : RetR L w e w' := by
  obtain ⟨ao, cap, h1, h2, h3, _⟩ := h
  exact ⟨ao, cap, h1, h2, h3⟩
/-- the ways in which two sets are joined -/
def wayS (way : Int) (a b : List Rg) (n : Int) : Bool :=
  (decide (way = 1) && memL a n && memL b n) || (decide (way = 2) && (memL a n || memL b n)) || (decide (way = 3) && memL a n && !memL b n)

set_option maxRecDepth 100000 in
set_option maxHeartbeats 3200000 in
theorem list_n (va vb : Value) (a b : List Rg) (way : Int) (hway : way = 1 ∨ way = 2 ∨ way = 3) (w : World) (ha : RgAt w va a) (hb : RgAt w vb b) (hla : a.length ≤ 4096) (hlb : b.length ≤ 4096) :
    Calls Try.prog 53 #[va, vb, .int .i64 way] w (RetN (canon (wayS way a b)) w) := by
  obtain ⟨i0, hi, hz0, hz1, hz2⟩ := info_parts Try.infoRg
  obtain ⟨ao, cap, rfl, _⟩ := ha.shape
  obtain ⟨ao2, cap2, rfl, _⟩ := hb.shape
  have CA : Hid (∀ n W, Below w.heap.size w W → Calls Try.prog 64 #[.slice ao a.length cap, .int .i64 n] W fun e w' => e = .returned (.bool (inD n && memL a n)) ∧ W = w') := fun n W h => refHas_c _ a n W (ha.below h) hla
  have CB : Hid (∀ n W, Below w.heap.size w W → Calls Try.prog 64 #[.slice ao2 b.length cap2, .int .i64 n] W fun e w' => e = .returned (.bool (inD n && memL b n)) ∧ W = w') := fun n W h => refHas_c _ b n W (hb.below h) hlb
  have HC : Hid ((accL (wayS way a b) 401).1 = canon (wayS way a b)) := accL_canon _
  have hln : (canon (wayS way a b)).length ≤ 201 := canon_len _
  have HL : Hid (∀ k, k ≤ 401 → (accL (wayS way a b) k).1.length ≤ 201) := fun k h => accL_len _ k h
  have HS : Hid (∀ k, accL (wayS way a b) (k + 1) = if wayS way a b ((k : Int) - 200) = true then
      (if (accL (wayS way a b) k).2 = true then setTop (accL (wayS way a b) k).1 ((k : Int) - 200) else (accL (wayS way a b) k).1 ++ [((k : Int) - 200, (k : Int) - 200)], true)
    else ((accL (wayS way a b) k).1, false)) := fun k => rfl
  have HO : Hid (∀ k, k ≤ 401 → (accL (wayS way a b) k).2 = true → ∃ M p, (accL (wayS way a b) k).1 = M ++ [p]) := fun k h h2 => by
    obtain ⟨M, p, h3, _⟩ := (accL_ok (wayS way a b) k h).2.2.1 h2
    exact ⟨M, p, h3⟩
  clear ha hb
  have H0 : accL (wayS way a b) 0 = ([], false) := rfl
  have HW : Hid (∀ n, wayS way a b n = ((decide (way = 1) && memL a n && memL b n) || (decide (way = 2) && (memL a n || memL b n)) || (decide (way = 3) && memL a n && !memL b n))) := fun n => rfl
  generalize wayS way a b = S at *
  generalize hme : canon S = me at HC hln ⊢
  clear hme
  go_enter Try.func53, Try.ntmps53
  go_wp2
  go_loopw [7, 8, 9] (fun o op s wr => ∃ k : Nat, k ≤ 401 ∧ s = .int .i64 ((k : Int) - 200) ∧ op = .bool (accL S k).2 ∧ wr.ownsRow w.heap.size 84 2 o (accL S k).1.length (cellsR (accL S k).1) ∧ Below w.heap.size w wr) (fun _ _ s _ => (201 - intOf s).toNat)
  case atStart =>
    refine ⟨0, by omega, rfl, by rw [H0], ?_, (Below.refl _ _).alloc (Nat.le_refl _) _⟩
    rw [H0]
    exact World.ownsRow_made w #[] 0 (Nat.le_refl _) (by decide) rfl
  case round =>
    obtain ⟨k, hk, rfl, rfl, hown, hbel⟩ := hrel
    have HB := Lib.hid hbel
    have hle := hbel.size
    have hOl := HL.out k hk
    by_cases hlt : k < 401
    · have hS1 := HS.out k
      have hO1 := HO.out k hk
      have hL1 := HL.out (k + 1) (by omega)
      clear hbel
      have CA2 := Lib.hid (CA.out ((k : Int) - 200) wr HB.out)
      have CB2 := Lib.hid (CB.out ((k : Int) - 200) wr HB.out)
      have hin : inD ((k : Int) - 200) = true := by simp [inD]; omega
      rw [HW.out] at hS1
      rw [hin, Bool.true_and] at CA2 CB2
      generalize accL S k = st at *
      obtain ⟨O, op⟩ := st
      generalize hn : (k : Int) - 200 = n at *
      generalize memL a n = xa at *
      generalize memL b n = xb at *
      have HO1 := Lib.hid hO1
      clear hO1
      have hM : (201 - (n + 1)).toNat < (201 - n).toNat := by omega
      rcases hway with rfl | rfl | rfl
      · cases xa
        · cases xb
          · have HS1 : Hid (accL S (k + 1) = (O, false)) := hS1
            clear hS1
            go_wp2_with (first
              | (go_at_call 64; (with_reducible refine CA2.out.mono ?_); rintro e w' ⟨rfl, rfl⟩)
              | (go_at_call 64; (with_reducible refine CB2.out.mono ?_); rintro e w' ⟨rfl, rfl⟩))
            refine ⟨⟨k + 1, by omega, by go_num, by rw [HS1.out], ?_, HB.out⟩, hM⟩
            rw [HS1.out]
            exact hown
          · have HS1 : Hid (accL S (k + 1) = (O, false)) := hS1
            clear hS1
            go_wp2_with (first
              | (go_at_call 64; (with_reducible refine CA2.out.mono ?_); rintro e w' ⟨rfl, rfl⟩)
              | (go_at_call 64; (with_reducible refine CB2.out.mono ?_); rintro e w' ⟨rfl, rfl⟩))
            refine ⟨⟨k + 1, by omega, by go_num, by rw [HS1.out], ?_, HB.out⟩, hM⟩
            rw [HS1.out]
            exact hown
        · cases xb
          · have HS1 : Hid (accL S (k + 1) = (O, false)) := hS1
            clear hS1
            go_wp2_with (first
              | (go_at_call 64; (with_reducible refine CA2.out.mono ?_); rintro e w' ⟨rfl, rfl⟩)
              | (go_at_call 64; (with_reducible refine CB2.out.mono ?_); rintro e w' ⟨rfl, rfl⟩))
            refine ⟨⟨k + 1, by omega, by go_num, by rw [HS1.out], ?_, HB.out⟩, hM⟩
            rw [HS1.out]
            exact hown
          · cases op
            · have HS1 : Hid (accL S (k + 1) = (O ++ [(n, n)], true)) := hS1
              rw [HS1.out] at hL1
              clear hS1
              go_wp2_with (first
                | (go_at_call 64; (with_reducible refine CA2.out.mono ?_); rintro e w' ⟨rfl, rfl⟩)
                | (go_at_call 64; (with_reducible refine CB2.out.mono ?_); rintro e w' ⟨rfl, rfl⟩)
                | (at_builtin; refine wpList_append2 rfl (.tmp 69) (.tmp 73) 46 rfl w.heap.size 84 i0 (.agg #[.int .i64 0, .int .i64 0]) 16 Try.underlying46 hi hz0 hz1 hz2 rfl _ _ _ rfl hown _ _ rfl rfl rfl rfl (by omega) hle ?_; intro v1 w1 o1 b1 n1))
              refine ⟨⟨k + 1, by omega, by go_num, by rw [HS1.out], ?_, HB.out.trans b1⟩, hM⟩
              rw [HS1.out, List.length_append, cellsR_append]
              exact o1
            · obtain ⟨M, p, hMp⟩ := HO1.out rfl
              simp only at hMp
              subst hMp
              have HS1 : Hid (accL S (k + 1) = (M ++ [(p.1, n)], true)) := by rw [← setTop_snoc]; exact hS1
              clear hS1
              obtain ⟨g, oc, rfl, hgb, hcells⟩ := owns_pos hown (by simp)
              have gf := hown.frozenAt (M.length * 2 + 1)
              have HQ := Lib.hid (hown.stored (M.length * 2 + 1) (.int .i64 n))
              have g1 := hcells (M.length * 2 + 1) (by simp; omega)
              rw [(cellsR_at (M ++ [p]) M.length (by simp)).2] at g1
              have hML : (M ++ [p]).length = M.length + 1 := by simp
              rw [hML]
              rw [hML] at HQ
              clear hcells hown
              generalize (M ++ [p])[M.length].2 = pu at g1
              go_wp2_with (first
                | (go_at_call 64; (with_reducible refine CA2.out.mono ?_); rintro e w' ⟨rfl, rfl⟩)
                | (go_at_call 64; (with_reducible refine CB2.out.mono ?_); rintro e w' ⟨rfl, rfl⟩))
              refine ⟨⟨k + 1, by omega, by go_num, by rw [HS1.out], ?_, HB.out.setCell (p := ⟨g, M.length * 2 + 1, none⟩) hgb _⟩, hM⟩
              rw [HS1.out, ← cellsR_last, List.length_append]
              exact HQ.out.1
      · cases xa
        · cases xb
          · have HS1 : Hid (accL S (k + 1) = (O, false)) := hS1
            clear hS1
            go_wp2_with (first
              | (go_at_call 64; (with_reducible refine CA2.out.mono ?_); rintro e w' ⟨rfl, rfl⟩)
              | (go_at_call 64; (with_reducible refine CB2.out.mono ?_); rintro e w' ⟨rfl, rfl⟩))
            refine ⟨⟨k + 1, by omega, by go_num, by rw [HS1.out], ?_, HB.out⟩, hM⟩
            rw [HS1.out]
            exact hown
          · cases op
            · have HS1 : Hid (accL S (k + 1) = (O ++ [(n, n)], true)) := hS1
              rw [HS1.out] at hL1
              clear hS1
              go_wp2_with (first
                | (go_at_call 64; (with_reducible refine CA2.out.mono ?_); rintro e w' ⟨rfl, rfl⟩)
                | (go_at_call 64; (with_reducible refine CB2.out.mono ?_); rintro e w' ⟨rfl, rfl⟩)
                | (at_builtin; refine wpList_append2 rfl (.tmp 69) (.tmp 73) 46 rfl w.heap.size 84 i0 (.agg #[.int .i64 0, .int .i64 0]) 16 Try.underlying46 hi hz0 hz1 hz2 rfl _ _ _ rfl hown _ _ rfl rfl rfl rfl (by omega) hle ?_; intro v1 w1 o1 b1 n1))
              refine ⟨⟨k + 1, by omega, by go_num, by rw [HS1.out], ?_, HB.out.trans b1⟩, hM⟩
              rw [HS1.out, List.length_append, cellsR_append]
              exact o1
            · obtain ⟨M, p, hMp⟩ := HO1.out rfl
              simp only at hMp
              subst hMp
              have HS1 : Hid (accL S (k + 1) = (M ++ [(p.1, n)], true)) := by rw [← setTop_snoc]; exact hS1
              clear hS1
              obtain ⟨g, oc, rfl, hgb, hcells⟩ := owns_pos hown (by simp)
              have gf := hown.frozenAt (M.length * 2 + 1)
              have HQ := Lib.hid (hown.stored (M.length * 2 + 1) (.int .i64 n))
              have g1 := hcells (M.length * 2 + 1) (by simp; omega)
              rw [(cellsR_at (M ++ [p]) M.length (by simp)).2] at g1
              have hML : (M ++ [p]).length = M.length + 1 := by simp
              rw [hML]
              rw [hML] at HQ
              clear hcells hown
              generalize (M ++ [p])[M.length].2 = pu at g1
              go_wp2_with (first
                | (go_at_call 64; (with_reducible refine CA2.out.mono ?_); rintro e w' ⟨rfl, rfl⟩)
                | (go_at_call 64; (with_reducible refine CB2.out.mono ?_); rintro e w' ⟨rfl, rfl⟩))
              refine ⟨⟨k + 1, by omega, by go_num, by rw [HS1.out], ?_, HB.out.setCell (p := ⟨g, M.length * 2 + 1, none⟩) hgb _⟩, hM⟩
              rw [HS1.out, ← cellsR_last, List.length_append]
              exact HQ.out.1
        · cases xb
          · cases op
            · have HS1 : Hid (accL S (k + 1) = (O ++ [(n, n)], true)) := hS1
              rw [HS1.out] at hL1
              clear hS1
              go_wp2_with (first
                | (go_at_call 64; (with_reducible refine CA2.out.mono ?_); rintro e w' ⟨rfl, rfl⟩)
                | (go_at_call 64; (with_reducible refine CB2.out.mono ?_); rintro e w' ⟨rfl, rfl⟩)
                | (at_builtin; refine wpList_append2 rfl (.tmp 69) (.tmp 73) 46 rfl w.heap.size 84 i0 (.agg #[.int .i64 0, .int .i64 0]) 16 Try.underlying46 hi hz0 hz1 hz2 rfl _ _ _ rfl hown _ _ rfl rfl rfl rfl (by omega) hle ?_; intro v1 w1 o1 b1 n1))
              refine ⟨⟨k + 1, by omega, by go_num, by rw [HS1.out], ?_, HB.out.trans b1⟩, hM⟩
              rw [HS1.out, List.length_append, cellsR_append]
              exact o1
            · obtain ⟨M, p, hMp⟩ := HO1.out rfl
              simp only at hMp
              subst hMp
              have HS1 : Hid (accL S (k + 1) = (M ++ [(p.1, n)], true)) := by rw [← setTop_snoc]; exact hS1
              clear hS1
              obtain ⟨g, oc, rfl, hgb, hcells⟩ := owns_pos hown (by simp)
              have gf := hown.frozenAt (M.length * 2 + 1)
              have HQ := Lib.hid (hown.stored (M.length * 2 + 1) (.int .i64 n))
              have g1 := hcells (M.length * 2 + 1) (by simp; omega)
              rw [(cellsR_at (M ++ [p]) M.length (by simp)).2] at g1
              have hML : (M ++ [p]).length = M.length + 1 := by simp
              rw [hML]
              rw [hML] at HQ
              clear hcells hown
              generalize (M ++ [p])[M.length].2 = pu at g1
              go_wp2_with (first
                | (go_at_call 64; (with_reducible refine CA2.out.mono ?_); rintro e w' ⟨rfl, rfl⟩)
                | (go_at_call 64; (with_reducible refine CB2.out.mono ?_); rintro e w' ⟨rfl, rfl⟩))
              refine ⟨⟨k + 1, by omega, by go_num, by rw [HS1.out], ?_, HB.out.setCell (p := ⟨g, M.length * 2 + 1, none⟩) hgb _⟩, hM⟩
              rw [HS1.out, ← cellsR_last, List.length_append]
              exact HQ.out.1
          · cases op
            · have HS1 : Hid (accL S (k + 1) = (O ++ [(n, n)], true)) := hS1
              rw [HS1.out] at hL1
              clear hS1
              go_wp2_with (first
                | (go_at_call 64; (with_reducible refine CA2.out.mono ?_); rintro e w' ⟨rfl, rfl⟩)
                | (go_at_call 64; (with_reducible refine CB2.out.mono ?_); rintro e w' ⟨rfl, rfl⟩)
                | (at_builtin; refine wpList_append2 rfl (.tmp 69) (.tmp 73) 46 rfl w.heap.size 84 i0 (.agg #[.int .i64 0, .int .i64 0]) 16 Try.underlying46 hi hz0 hz1 hz2 rfl _ _ _ rfl hown _ _ rfl rfl rfl rfl (by omega) hle ?_; intro v1 w1 o1 b1 n1))
              refine ⟨⟨k + 1, by omega, by go_num, by rw [HS1.out], ?_, HB.out.trans b1⟩, hM⟩
              rw [HS1.out, List.length_append, cellsR_append]
              exact o1
            · obtain ⟨M, p, hMp⟩ := HO1.out rfl
              simp only at hMp
              subst hMp
              have HS1 : Hid (accL S (k + 1) = (M ++ [(p.1, n)], true)) := by rw [← setTop_snoc]; exact hS1
              clear hS1
              obtain ⟨g, oc, rfl, hgb, hcells⟩ := owns_pos hown (by simp)
              have gf := hown.frozenAt (M.length * 2 + 1)
              have HQ := Lib.hid (hown.stored (M.length * 2 + 1) (.int .i64 n))
              have g1 := hcells (M.length * 2 + 1) (by simp; omega)
              rw [(cellsR_at (M ++ [p]) M.length (by simp)).2] at g1
              have hML : (M ++ [p]).length = M.length + 1 := by simp
              rw [hML]
              rw [hML] at HQ
              clear hcells hown
              generalize (M ++ [p])[M.length].2 = pu at g1
              go_wp2_with (first
                | (go_at_call 64; (with_reducible refine CA2.out.mono ?_); rintro e w' ⟨rfl, rfl⟩)
                | (go_at_call 64; (with_reducible refine CB2.out.mono ?_); rintro e w' ⟨rfl, rfl⟩))
              refine ⟨⟨k + 1, by omega, by go_num, by rw [HS1.out], ?_, HB.out.setCell (p := ⟨g, M.length * 2 + 1, none⟩) hgb _⟩, hM⟩
              rw [HS1.out, ← cellsR_last, List.length_append]
              exact HQ.out.1
      · cases xa
        · cases xb
          · have HS1 : Hid (accL S (k + 1) = (O, false)) := hS1
            clear hS1
            go_wp2_with (first
              | (go_at_call 64; (with_reducible refine CA2.out.mono ?_); rintro e w' ⟨rfl, rfl⟩)
              | (go_at_call 64; (with_reducible refine CB2.out.mono ?_); rintro e w' ⟨rfl, rfl⟩))
            refine ⟨⟨k + 1, by omega, by go_num, by rw [HS1.out], ?_, HB.out⟩, hM⟩
            rw [HS1.out]
            exact hown
          · have HS1 : Hid (accL S (k + 1) = (O, false)) := hS1
            clear hS1
            go_wp2_with (first
              | (go_at_call 64; (with_reducible refine CA2.out.mono ?_); rintro e w' ⟨rfl, rfl⟩)
              | (go_at_call 64; (with_reducible refine CB2.out.mono ?_); rintro e w' ⟨rfl, rfl⟩))
            refine ⟨⟨k + 1, by omega, by go_num, by rw [HS1.out], ?_, HB.out⟩, hM⟩
            rw [HS1.out]
            exact hown
        · cases xb
          · cases op
            · have HS1 : Hid (accL S (k + 1) = (O ++ [(n, n)], true)) := hS1
              rw [HS1.out] at hL1
              clear hS1
              go_wp2_with (first
                | (go_at_call 64; (with_reducible refine CA2.out.mono ?_); rintro e w' ⟨rfl, rfl⟩)
                | (go_at_call 64; (with_reducible refine CB2.out.mono ?_); rintro e w' ⟨rfl, rfl⟩)
                | (at_builtin; refine wpList_append2 rfl (.tmp 69) (.tmp 73) 46 rfl w.heap.size 84 i0 (.agg #[.int .i64 0, .int .i64 0]) 16 Try.underlying46 hi hz0 hz1 hz2 rfl _ _ _ rfl hown _ _ rfl rfl rfl rfl (by omega) hle ?_; intro v1 w1 o1 b1 n1))
              refine ⟨⟨k + 1, by omega, by go_num, by rw [HS1.out], ?_, HB.out.trans b1⟩, hM⟩
              rw [HS1.out, List.length_append, cellsR_append]
              exact o1
            · obtain ⟨M, p, hMp⟩ := HO1.out rfl
              simp only at hMp
              subst hMp
              have HS1 : Hid (accL S (k + 1) = (M ++ [(p.1, n)], true)) := by rw [← setTop_snoc]; exact hS1
              clear hS1
              obtain ⟨g, oc, rfl, hgb, hcells⟩ := owns_pos hown (by simp)
              have gf := hown.frozenAt (M.length * 2 + 1)
              have HQ := Lib.hid (hown.stored (M.length * 2 + 1) (.int .i64 n))
              have g1 := hcells (M.length * 2 + 1) (by simp; omega)
              rw [(cellsR_at (M ++ [p]) M.length (by simp)).2] at g1
              have hML : (M ++ [p]).length = M.length + 1 := by simp
              rw [hML]
              rw [hML] at HQ
              clear hcells hown
              generalize (M ++ [p])[M.length].2 = pu at g1
              go_wp2_with (first
                | (go_at_call 64; (with_reducible refine CA2.out.mono ?_); rintro e w' ⟨rfl, rfl⟩)
                | (go_at_call 64; (with_reducible refine CB2.out.mono ?_); rintro e w' ⟨rfl, rfl⟩))
              refine ⟨⟨k + 1, by omega, by go_num, by rw [HS1.out], ?_, HB.out.setCell (p := ⟨g, M.length * 2 + 1, none⟩) hgb _⟩, hM⟩
              rw [HS1.out, ← cellsR_last, List.length_append]
              exact HQ.out.1
          · have HS1 : Hid (accL S (k + 1) = (O, false)) := hS1
            clear hS1
            go_wp2_with (first
              | (go_at_call 64; (with_reducible refine CA2.out.mono ?_); rintro e w' ⟨rfl, rfl⟩)
              | (go_at_call 64; (with_reducible refine CB2.out.mono ?_); rintro e w' ⟨rfl, rfl⟩))
            refine ⟨⟨k + 1, by omega, by go_num, by rw [HS1.out], ?_, HB.out⟩, hM⟩
            rw [HS1.out]
            exact hown
    · obtain rfl : k = 401 := by omega
      rw [HC.out] at hown
      obtain ⟨oa, oc, rfl, _⟩ := (SlAt.of_own hown).shape
      go_wp2
      go_ret
      exact ⟨_, _, rfl, RgAt.own hown, HB.out, fun b hb => (hown.lt b hb).1⟩
theorem list_c (va vb : Value) (a b : List Rg) (way : Int) (hway : way = 1 ∨ way = 2 ∨ way = 3) (w : World) (ha : RgAt w va a) (hb : RgAt w vb b) (hla : a.length ≤ 4096) (hlb : b.length ≤ 4096) :
    Calls Try.prog 53 #[va, vb, .int .i64 way] w (RetR (canon (wayS way a b)) w) := (list_n va vb a b way hway w ha hb hla hlb).mono fun _ _ h => h.toR
end Go.Proofs.Ytkhiogcdamjocaa
