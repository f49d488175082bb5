/-
  coneyref15.Check and the law LinChecks, walked.
-/
import Derived.Test.YtkhiogcdamjocaaChk
namespace Go.Proofs.Ytkhiogcdamjocaa
open Go.RowKit

set_option maxHeartbeats 400000 in
theorem within_any (n lo hi : Int) (w : World) : Calls Try.prog 56 #[.int .i64 n, .int .i64 lo, .int .i64 hi] w fun e w' => e = .returned (.bool (decide (lo ≤ n) && decide (n ≤ hi))) ∧ w = w' := by
  by_cases h1 : lo ≤ n
  · by_cases h2 : n ≤ hi
    · go_enter Try.func56, Try.ntmps56
      go_wp2
      go_ret
      exact ⟨ret_bool (by simp [h1, h2]), rfl⟩
    · go_enter Try.func56, Try.ntmps56
      go_wp2
      go_ret
      exact ⟨ret_bool (by simp; omega), rfl⟩
  · have h1' : decide (lo ≤ n) = false := by simpa using h1
    go_enter Try.func56, Try.ntmps56
    go_wp2
    go_ret
    exact ⟨ret_bool (by simp [h1]), rfl⟩

theorem any_eq_range (z : Int) (l : List Int) (k : Nat) (hk : k ≤ l.length) : (l.take k).any (z == ·) = (List.range k).any (fun j => l.getD j 0 == z) := by
  rw [Bool.eq_iff_iff, List.any_eq_true, List.any_eq_true]
  constructor
  · rintro ⟨x, hx, he⟩
    obtain ⟨j, hj, rfl⟩ := List.mem_take_iff_getElem.1 hx
    refine ⟨j, by simp; omega, ?_⟩
    rw [beq_iff_eq] at he ⊢
    rw [he]; simp [show j < l.length by omega]
  · rintro ⟨j, hj, he⟩
    have hj' : j < k := by simpa using hj
    refine ⟨l.getD j 0, ?_, by rw [beq_iff_eq] at he ⊢; exact he.symm⟩
    rw [List.mem_take_iff_getElem]
    exact ⟨j, by omega, by simp [show j < l.length by omega]⟩

set_option maxHeartbeats 3200000 in
theorem refCheck_any (v0 v1 : Value) (rel c n : Int) (coef vars : List Int) (w : World) (h0 : IsAt w v0 coef) (h1 : IsAt w v1 vars) (hl0 : coef.length ≤ 4096) (hl1 : vars.length ≤ 4096) :
    Calls Try.prog 32 #[.agg #[v0, v1, .int .i64 rel, .int .i64 c], .int .i64 n] w fun e w' => e = .returned (.int .i64 (linChk coef vars rel c n)) ∧ Below w.heap.size w w' := by
  obtain ⟨a0, c0, rfl, _⟩ := h0.shape
  obtain ⟨a1, c1, rfl, _⟩ := h1.shape
  have hB : Below w.heap.size w (w.alloc (.cells #[.slice a0 coef.length c0, .slice a1 vars.length c1, .int .i64 rel, .int .i64 c] 24)) := (Below.refl _ _).alloc (Nat.le_refl _) _
  have H0 := Lib.hid (h0.below hB)
  have H1 := Lib.hid (h1.below hB)
  clear h0 h1
  by_cases e1 : coef.length ≠ vars.length
  · have e1' : ((coef.length : Int) != (vars.length : Int)) = true := by simp; omega
    have hS : Hid (linChk coef vars rel c n = 150) := by show _ = _; simp [linChk, shapeB, e1]
    go_enter Try.func32, Try.ntmps32
    go_wp2_with (first | (go_at_call 56; ((with_reducible refine (within_any _ _ _ _).mono ?_); rintro e w' ⟨rfl, rfl⟩)))
    go_ret
    exact ⟨ret_int hS.out.symm, hB⟩
  have e1' : ((coef.length : Int) != (vars.length : Int)) = false := by simp; omega
  have e1'' : (coef.length != vars.length) = false := by simp; omega
  have E1 := Lib.hid e1''
  clear e1 e1''
  by_cases e2 : 16 < coef.length
  · have hS : Hid (linChk coef vars rel c n = 150) := by show _ = _; simp [linChk, shapeB, e2]
    go_enter Try.func32, Try.ntmps32
    go_wp2_with (first | (go_at_call 56; ((with_reducible refine (within_any _ _ _ _).mono ?_); rintro e w' ⟨rfl, rfl⟩)))
    go_ret
    exact ⟨ret_int hS.out.symm, hB⟩
  by_cases e3 : rel < 1
  · have e3' : decide (1 ≤ rel) = false := by simp; omega
    have hS : Hid (linChk coef vars rel c n = 150) := by show _ = _; simp [linChk, shapeB, e3]
    go_enter Try.func32, Try.ntmps32
    go_wp2_with (first | (go_at_call 56; ((with_reducible refine (within_any _ _ _ _).mono ?_); rintro e w' ⟨rfl, rfl⟩)))
    go_ret
    exact ⟨ret_int hS.out.symm, hB⟩
  by_cases e4 : 3 < rel
  · have e4' : decide (rel ≤ 3) = false := by simp; omega
    have hS : Hid (linChk coef vars rel c n = 150) := by show _ = _; simp [linChk, shapeB, e4]
    go_enter Try.func32, Try.ntmps32
    go_wp2_with (first | (go_at_call 56; ((with_reducible refine (within_any _ _ _ _).mono ?_); rintro e w' ⟨rfl, rfl⟩)))
    go_ret
    exact ⟨ret_int hS.out.symm, hB⟩
  by_cases e5 : c < -1099511627776
  · have e5' : decide (-1099511627776 ≤ c) = false := by simp; omega
    have hS : Hid (linChk coef vars rel c n = 150) := by show _ = _; simp [linChk, shapeB, e5]
    go_enter Try.func32, Try.ntmps32
    go_wp2_with (first | (go_at_call 56; ((with_reducible refine (within_any _ _ _ _).mono ?_); rintro e w' ⟨rfl, rfl⟩)))
    go_ret
    exact ⟨ret_int hS.out.symm, hB⟩
  by_cases e6 : 1099511627776 < c
  · have e6' : decide (c ≤ 1099511627776) = false := by simp; omega
    have hS : Hid (linChk coef vars rel c n = 150) := by show _ = _; simp [linChk, shapeB, e6]
    go_enter Try.func32, Try.ntmps32
    go_wp2_with (first | (go_at_call 56; ((with_reducible refine (within_any _ _ _ _).mono ?_); rintro e w' ⟨rfl, rfl⟩)))
    go_ret
    exact ⟨ret_int hS.out.symm, hB⟩
  have hS : Hid (linChk coef vars rel c n = if coef.any oddB = true then 150 else if (List.range vars.length).any (badV vars n) = true then 160 else 0) := by
    show _ = _
    have := E1.out
    simp [linChk, shapeB, this, e2, e3, e4, e5, e6]
  have e3' : decide (1 ≤ rel) = true := by simp; omega
  have e4' : decide (rel ≤ 3) = true := by simp; omega
  have e5' : decide (-1099511627776 ≤ c) = true := by simp; omega
  have e6' : decide (c ≤ 1099511627776) = true := by simp; omega
  go_enter Try.func32, Try.ntmps32
  go_wp2_with (first | (go_at_call 56; ((with_reducible refine (within_any _ _ _ _).mono ?_); rintro e w' ⟨rfl, rfl⟩)))
  clear e3' e4' e5' e6' e1'
  go_loop [5] (fun i => ∃ k : Nat, k ≤ coef.length ∧ i = .int .i64 k ∧ (coef.take k).any oddB = false) (fun i => coef.length - (intOf i).toNat)
  case atStart => exact ⟨0, by omega, rfl, by simp⟩
  case round =>
    obtain ⟨k, hk, rfl, hnot⟩ := hrel
    have HN := Lib.hid hnot
    clear hnot
    by_cases hlt : k < coef.length
    · obtain ⟨b, off, cap', he, hcap, _, hc⟩ := IsAt.at H0.out (by omega)
      simp only [Value.slice.injEq, true_and] at he
      obtain ⟨rfl, rfl⟩ := he
      have hcell := hc k hlt
      clear hc
      obtain ⟨z, hz⟩ : ∃ z, z = coef[k] := ⟨_, rfl⟩
      rw [← hz] at hcell
      cases ho : oddB z with
      | true =>
        have hA : Hid (coef.any oddB = true) := by show _ = _; rw [List.any_eq_true]; exact ⟨coef[k], List.getElem_mem hlt, by rw [← hz]; exact ho⟩
        clear hz
        by_cases z1 : -100000 ≤ z
        · by_cases z2 : z ≤ 100000
          · have z0 : z = 0 := by simp [oddB] at ho; omega
            subst z0
            clear ho
            go_wp2_with (first | (go_at_call 56; ((with_reducible refine (within_any _ _ _ _).mono ?_); rintro e w' ⟨rfl, rfl⟩)))
            go_ret
            exact ⟨ret_int (by rw [hS.out, hA.out]; rfl), hB⟩
          · have z1' : decide (-100000 ≤ z) = true := by simpa using z1
            have z2' : decide (z ≤ 100000) = false := by simpa using z2
            clear ho
            go_wp2_with (first | (go_at_call 56; ((with_reducible refine (within_any _ _ _ _).mono ?_); rintro e w' ⟨rfl, rfl⟩)))
            go_ret
            exact ⟨ret_int (by rw [hS.out, hA.out]; rfl), hB⟩
        · have z1' : decide (-100000 ≤ z) = false := by simpa using z1
          clear ho
          go_wp2_with (first | (go_at_call 56; ((with_reducible refine (within_any _ _ _ _).mono ?_); rintro e w' ⟨rfl, rfl⟩)))
          go_ret
          exact ⟨ret_int (by rw [hS.out, hA.out]; rfl), hB⟩
      | false =>
        have hF := Lib.hid (any_take_step oddB coef k hlt HN.out (by rw [← hz]; exact ho))
        clear hz
        have z1' : decide (-100000 ≤ z) = true := by simp [oddB] at ho; simp; omega
        have z2' : decide (z ≤ 100000) = true := by simp [oddB] at ho; simp; omega
        have z0' : (z == 0) = false := by simp [oddB] at ho; simp; omega
        clear ho
        go_wp2_with (first | (go_at_call 56; ((with_reducible refine (within_any _ _ _ _).mono ?_); rintro e w' ⟨rfl, rfl⟩)))
        go_round
        case rel => exact ⟨k + 1, by omega, by go_num, hF.out⟩
        case measure => simp [intOf]; omega
    · have hA : Hid (coef.any oddB = false) := by have := HN.out; rwa [List.take_of_length_le (by omega)] at this
      clear HN
      have HB := Lib.hid hB
      clear hB
      clear H0
      go_wp2
      go_loopw [6] (fun i wr => ∃ k q : Nat, k ≤ vars.length ∧ i = .int .i64 k ∧ wr = (w.alloc (.cells #[.slice a0 coef.length c0, .slice a1 vars.length c1, .int .i64 rel, .int .i64 c] 24)).drewN q ∧ (List.range k).any (badV vars n) = false) (fun i _ => vars.length - (intOf i).toNat)
      case atStart => exact ⟨0, 0, by omega, rfl, rfl, rfl⟩
      case round =>
        obtain ⟨m, q, hm, rfl, rfl, hnot⟩ := hrel
        have HN := Lib.hid hnot
        clear hnot
        by_cases hlt : m < vars.length
        · obtain ⟨b, off, cap', he, hcap, _, hc⟩ := IsAt.at H1.out (by omega)
          simp only [Value.slice.injEq, true_and] at he
          obtain ⟨rfl, rfl⟩ := he
          have HC := Lib.hid hc
          have hcell := hc m hlt
          clear hc
          obtain ⟨z, hz⟩ : ∃ z, z = vars[m] := ⟨_, rfl⟩
          have HZ : Hid (vars.getD m 0 = z) := by show _ = _; rw [hz]; simp [hlt]
          rw [← hz] at hcell
          clear hz
          by_cases z1 : z < 0
          · have hF : Hid ((List.range vars.length).any (badV vars n) = true) := range_any_hit _ m _ hlt (by rw [badV, HZ.out]; simp [z1])
            go_wp2
            go_ret
            exact ⟨ret_int (by rw [hS.out, hA.out, hF.out]; rfl), below_drewN HB.out _⟩
          · by_cases z2 : n ≤ z
            · have hF : Hid ((List.range vars.length).any (badV vars n) = true) := range_any_hit _ m _ hlt (by rw [badV, HZ.out]; simp [z2])
              go_wp2
              go_ret
              exact ⟨ret_int (by rw [hS.out, hA.out, hF.out]; rfl), below_drewN HB.out _⟩
            · go_wp2
              go_loopw [7] (fun i wr => ∃ j q' : Nat, j ≤ m ∧ i = .int .i64 j ∧ wr = (w.alloc (.cells #[.slice a0 coef.length c0, .slice (some ⟨b, off, none⟩) vars.length c1, .int .i64 rel, .int .i64 c] 24)).drewN q' ∧ (List.range j).any (fun j => vars.getD j 0 == z) = false) (fun i _ => m - (intOf i).toNat)
              case atStart => exact ⟨0, q, by omega, rfl, rfl, rfl⟩
              case round =>
                obtain ⟨j, q', hj, rfl, rfl, hnot2⟩ := hrel
                have HM := Lib.hid hnot2
                clear hnot2
                by_cases hjm : j < m
                · have hcj := HC.out j (by omega)
                  obtain ⟨y, hy⟩ : ∃ y, y = vars[j]'(by omega) := ⟨_, rfl⟩
                  have HY : Hid (vars.getD j 0 = y) := by show _ = _; rw [hy]; simp [show j < vars.length by omega]
                  rw [← hy] at hcj
                  clear hy
                  have hmc : m < c1 := by omega
                  have hjc : j < c1 := by omega
                  cases hyz : (y == z) with
                  | true =>
                    have hF : Hid ((List.range vars.length).any (badV vars n) = true) := range_any_hit _ m _ hlt (by
                      have h3 : (vars.take m).any (z == ·) = true := by
                        rw [any_eq_range z vars m (by omega)]
                        exact range_any_hit _ j _ hjm (by rw [HY.out]; exact hyz)
                      rw [badV, HZ.out, h3]; simp)
                    go_wp2
                    go_quiet (fail)
                    go_wp2
                    go_ret
                    exact ⟨ret_int (by rw [hS.out, hA.out, hF.out]; rfl), below_drewN (below_drewN HB.out _) _⟩
                  | false =>
                    have hF := Lib.hid (range_any_step (fun j => vars.getD j 0 == z) j HM.out (by rw [HY.out]; exact hyz))
                    go_wp2
                    go_quiet (fail)
                    go_wp2
                    go_roundw
                    case rel => exact ⟨j + 1, _, by omega, by go_num, rfl, hF.out⟩
                    case measure => simp [intOf]; omega
                · have hF : Hid ((List.range (m + 1)).any (badV vars n) = false) := range_any_step _ m HN.out (by
                    have h3 : (vars.take m).any (z == ·) = false := by
                      rw [any_eq_range z vars m (by omega)]
                      have := HM.out
                      rwa [show j = m by omega] at this
                    rw [badV, HZ.out, h3]; simp; omega)
                  go_wp2
                  go_roundw
                  case rel => exact ⟨m + 1, _, by omega, by go_num, rfl, hF.out⟩
                  case measure => simp [intOf]; omega
        · have hF : Hid ((List.range vars.length).any (badV vars n) = false) := by have := HN.out; rwa [show m = vars.length by omega] at this
          go_wp2
          go_ret
          exact ⟨ret_int (by rw [hS.out, hA.out, hF.out]; rfl), below_drewN HB.out _⟩

end Go.Proofs.Ytkhiogcdamjocaa
