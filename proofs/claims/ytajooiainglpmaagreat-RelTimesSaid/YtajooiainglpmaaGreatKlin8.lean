/-
  coneyref15.Check and the law LinChecks, walked.
  What the laws of layer 15 begin with: the bound, the check.
  WHETHER TWO LISTS OF SETS ARE THE SAME, walked.
  LinLess, walked.
  SUMS AND LISTS OF SETS THAT COME IN.
-/
import Derived.Test.YtajooiainglpmaaGreatKlin2
import Derived.Test.YtajooiainglpmaaGreatKlin7
import Derived.Test.YtajooiainglpmaaGreatKdom3
import Derived.Deep.QuietTactic
import Derived.BigQuiet
import Derived.Test.YtajooiainglpmaaGreatKdom4
namespace Go.Proofs.YtajooiainglpmaaGreat
open Go.RowKit

set_option maxHeartbeats 400000 in
theorem within_any (n lo hi : Int) (w : World) : Calls Tryz.prog 85 #[.int .i64 n, .int .i64 lo, .int .i64 hi] w fun e w' => e = .returned (.bool (decide (lo ≤ n) && decide (n ≤ hi))) ∧ w = w' := by
  by_cases h1 : lo ≤ n
  · by_cases h2 : n ≤ hi
    · go_enter Tryz.func85, Tryz.ntmps85
      go_wp2
      go_ret
      exact ⟨ret_bool (by simp [h1, h2]), rfl⟩
    · go_enter Tryz.func85, Tryz.ntmps85
      go_wp2
      go_ret
      exact ⟨ret_bool (by simp; omega), rfl⟩
  · have h1' : decide (lo ≤ n) = false := by simpa using h1
    go_enter Tryz.func85, Tryz.ntmps85
    go_wp2
    go_ret
    exact ⟨ret_bool (by simp), rfl⟩

theorem any_eq_range (z : Int) (l : List Int) (k : Nat) (hk : k ≤ l.length) : (l.take k).any (z == ·) = (List.range k).any (fun j => l.getD j 0 == z) := by
  rw [Bool.eq_iff_iff, List.any_eq_true, List.any_eq_true]
  constructor
  · rintro ⟨x, hx, he⟩
    obtain ⟨j, hj, rfl⟩ := List.mem_take_iff_getElem.1 hx
    refine ⟨j, by simp; omega, ?_⟩
    rw [beq_iff_eq] at he ⊢
    rw [he]; simp [show j < l.length by omega]
  · rintro ⟨j, hj, he⟩
    have hj' : j < k := by simpa using hj
    refine ⟨l.getD j 0, ?_, by rw [beq_iff_eq] at he ⊢; exact he.symm⟩
    rw [List.mem_take_iff_getElem]
    exact ⟨j, by omega, by simp [show j < l.length by omega]⟩

set_option maxHeartbeats 3200000 in
theorem refCheck_any (v0 v1 : Value) (rel c n : Int) (coef vars : List Int) (w : World) (h0 : IsAt w v0 coef) (h1 : IsAt w v1 vars) (hl0 : coef.length ≤ 4096) (hl1 : vars.length ≤ 4096) :
    Calls Tryz.prog 70 #[.agg #[v0, v1, .int .i64 rel, .int .i64 c], .int .i64 n] w fun e w' => e = .returned (.int .i64 (linChk coef vars rel c n)) ∧ Below w.heap.size w w' := by
  obtain ⟨a0, c0, rfl, _⟩ := h0.shape
  obtain ⟨a1, c1, rfl, _⟩ := h1.shape
  have hB : Below w.heap.size w (w.alloc (.cells #[.slice a0 coef.length c0, .slice a1 vars.length c1, .int .i64 rel, .int .i64 c] 28)) := (Below.refl _ _).alloc (Nat.le_refl _) _
  have H0 := Lib.hid (h0.below hB)
  have H1 := Lib.hid (h1.below hB)
  clear h0 h1
  by_cases e1 : coef.length ≠ vars.length
  · have e1' : ((coef.length : Int) != (vars.length : Int)) = true := by simp; omega
    have hS : Hid (linChk coef vars rel c n = 150) := by show _ = _; simp [linChk, shapeB, e1]
    go_enter Tryz.func70, Tryz.ntmps70
    go_wp2_with (first | (go_at_call 85; ((with_reducible refine (within_any _ _ _ _).mono ?_); rintro e w' ⟨rfl, rfl⟩)))
    go_ret
    exact ⟨ret_int hS.out.symm, hB⟩
  have e1' : ((coef.length : Int) != (vars.length : Int)) = false := by simp; omega
  have e1'' : (coef.length != vars.length) = false := by simp; omega
  have E1 := Lib.hid e1''
  clear e1 e1''
  by_cases e2 : 16 < coef.length
  · have hS : Hid (linChk coef vars rel c n = 150) := by show _ = _; simp [linChk, shapeB, e2]
    go_enter Tryz.func70, Tryz.ntmps70
    go_wp2_with (first | (go_at_call 85; ((with_reducible refine (within_any _ _ _ _).mono ?_); rintro e w' ⟨rfl, rfl⟩)))
    go_ret
    exact ⟨ret_int hS.out.symm, hB⟩
  by_cases e3 : rel < 1
  · have e3' : decide (1 ≤ rel) = false := by simp; omega
    have hS : Hid (linChk coef vars rel c n = 150) := by show _ = _; simp [linChk, shapeB, e3]
    go_enter Tryz.func70, Tryz.ntmps70
    go_wp2_with (first | (go_at_call 85; ((with_reducible refine (within_any _ _ _ _).mono ?_); rintro e w' ⟨rfl, rfl⟩)))
    go_ret
    exact ⟨ret_int hS.out.symm, hB⟩
  by_cases e4 : 3 < rel
  · have e4' : decide (rel ≤ 3) = false := by simp; omega
    have hS : Hid (linChk coef vars rel c n = 150) := by show _ = _; simp [linChk, shapeB, e4]
    go_enter Tryz.func70, Tryz.ntmps70
    go_wp2_with (first | (go_at_call 85; ((with_reducible refine (within_any _ _ _ _).mono ?_); rintro e w' ⟨rfl, rfl⟩)))
    go_ret
    exact ⟨ret_int hS.out.symm, hB⟩
  by_cases e5 : c < -1099511627776
  · have e5' : decide (-1099511627776 ≤ c) = false := by simp; omega
    have hS : Hid (linChk coef vars rel c n = 150) := by show _ = _; simp [linChk, shapeB, e5]
    go_enter Tryz.func70, Tryz.ntmps70
    go_wp2_with (first | (go_at_call 85; ((with_reducible refine (within_any _ _ _ _).mono ?_); rintro e w' ⟨rfl, rfl⟩)))
    go_ret
    exact ⟨ret_int hS.out.symm, hB⟩
  by_cases e6 : 1099511627776 < c
  · have e6' : decide (c ≤ 1099511627776) = false := by simp; omega
    have hS : Hid (linChk coef vars rel c n = 150) := by show _ = _; simp [linChk, shapeB, e6]
    go_enter Tryz.func70, Tryz.ntmps70
    go_wp2_with (first | (go_at_call 85; ((with_reducible refine (within_any _ _ _ _).mono ?_); rintro e w' ⟨rfl, rfl⟩)))
    go_ret
    exact ⟨ret_int hS.out.symm, hB⟩
  have hS : Hid (linChk coef vars rel c n = if coef.any oddB = true then 150 else if (List.range vars.length).any (badV vars n) = true then 160 else 0) := by
    show _ = _
    have := E1.out
    simp [linChk, shapeB, this, e2, e3, e4, e5, e6]
  have e3' : decide (1 ≤ rel) = true := by simp; omega
  have e4' : decide (rel ≤ 3) = true := by simp; omega
  have e5' : decide (-1099511627776 ≤ c) = true := by simp; omega
  have e6' : decide (c ≤ 1099511627776) = true := by simp; omega
  go_enter Tryz.func70, Tryz.ntmps70
  go_wp2_with (first | (go_at_call 85; ((with_reducible refine (within_any _ _ _ _).mono ?_); rintro e w' ⟨rfl, rfl⟩)))
  clear e3' e4' e5' e6' e1'
  go_loop [5] (fun i => ∃ k : Nat, k ≤ coef.length ∧ i = .int .i64 k ∧ (coef.take k).any oddB = false) (fun i => coef.length - (intOf i).toNat)
  case atStart => exact ⟨0, by omega, rfl, by simp⟩
  case round =>
    obtain ⟨k, hk, rfl, hnot⟩ := hrel
    have HN := Lib.hid hnot
    clear hnot
    by_cases hlt : k < coef.length
    · obtain ⟨b, off, cap', he, hcap, _, hc⟩ := IsAt.at H0.out (by omega)
      simp only [Value.slice.injEq, true_and] at he
      obtain ⟨rfl, rfl⟩ := he
      have hcell := hc k hlt
      clear hc
      obtain ⟨z, hz⟩ : ∃ z, z = coef[k] := ⟨_, rfl⟩
      rw [← hz] at hcell
      cases ho : oddB z with
      | true =>
        have hA : Hid (coef.any oddB = true) := by show _ = _; rw [List.any_eq_true]; exact ⟨coef[k], List.getElem_mem hlt, by rw [← hz]; exact ho⟩
        clear hz
        by_cases z1 : -100000 ≤ z
        · by_cases z2 : z ≤ 100000
          · have z0 : z = 0 := by simp [oddB] at ho; omega
            subst z0
            clear ho
            go_wp2_with (first | (go_at_call 85; ((with_reducible refine (within_any _ _ _ _).mono ?_); rintro e w' ⟨rfl, rfl⟩)))
            go_ret
            exact ⟨ret_int (by rw [hS.out, hA.out]; rfl), hB⟩
          · have z1' : decide (-100000 ≤ z) = true := by simpa using z1
            have z2' : decide (z ≤ 100000) = false := by simpa using z2
            clear ho
            go_wp2_with (first | (go_at_call 85; ((with_reducible refine (within_any _ _ _ _).mono ?_); rintro e w' ⟨rfl, rfl⟩)))
            go_ret
            exact ⟨ret_int (by rw [hS.out, hA.out]; rfl), hB⟩
        · have z1' : decide (-100000 ≤ z) = false := by simpa using z1
          clear ho
          go_wp2_with (first | (go_at_call 85; ((with_reducible refine (within_any _ _ _ _).mono ?_); rintro e w' ⟨rfl, rfl⟩)))
          go_ret
          exact ⟨ret_int (by rw [hS.out, hA.out]; rfl), hB⟩
      | false =>
        have hF := Lib.hid (any_take_step oddB coef k hlt HN.out (by rw [← hz]; exact ho))
        clear hz
        have z1' : decide (-100000 ≤ z) = true := by simp [oddB] at ho; simp; omega
        have z2' : decide (z ≤ 100000) = true := by simp [oddB] at ho; simp; omega
        have z0' : (z == 0) = false := by simp [oddB] at ho; simp; omega
        clear ho
        go_wp2_with (first | (go_at_call 85; ((with_reducible refine (within_any _ _ _ _).mono ?_); rintro e w' ⟨rfl, rfl⟩)))
        go_round
        case rel => exact ⟨k + 1, by omega, by go_num, hF.out⟩
        case measure => simp [intOf]; omega
    · have hA : Hid (coef.any oddB = false) := by have := HN.out; rwa [List.take_of_length_le (by omega)] at this
      clear HN
      have HB := Lib.hid hB
      clear hB
      clear H0
      go_wp2
      go_loopw [6] (fun i wr => ∃ k q : Nat, k ≤ vars.length ∧ i = .int .i64 k ∧ wr = (w.alloc (.cells #[.slice a0 coef.length c0, .slice a1 vars.length c1, .int .i64 rel, .int .i64 c] 28)).drewN q ∧ (List.range k).any (badV vars n) = false) (fun i _ => vars.length - (intOf i).toNat)
      case atStart => exact ⟨0, 0, by omega, rfl, rfl, rfl⟩
      case round =>
        obtain ⟨m, q, hm, rfl, rfl, hnot⟩ := hrel
        have HN := Lib.hid hnot
        clear hnot
        by_cases hlt : m < vars.length
        · obtain ⟨b, off, cap', he, hcap, _, hc⟩ := IsAt.at H1.out (by omega)
          simp only [Value.slice.injEq, true_and] at he
          obtain ⟨rfl, rfl⟩ := he
          have HC := Lib.hid hc
          have hcell := hc m hlt
          clear hc
          obtain ⟨z, hz⟩ : ∃ z, z = vars[m] := ⟨_, rfl⟩
          have HZ : Hid (vars.getD m 0 = z) := by show _ = _; rw [hz]; simp [hlt]
          rw [← hz] at hcell
          clear hz
          by_cases z1 : z < 0
          · have hF : Hid ((List.range vars.length).any (badV vars n) = true) := range_any_hit _ m _ hlt (by rw [badV, HZ.out]; simp [z1])
            go_wp2
            go_ret
            exact ⟨ret_int (by rw [hS.out, hA.out, hF.out]; rfl), below_drewN HB.out _⟩
          · by_cases z2 : n ≤ z
            · have hF : Hid ((List.range vars.length).any (badV vars n) = true) := range_any_hit _ m _ hlt (by rw [badV, HZ.out]; simp [z2])
              go_wp2
              go_ret
              exact ⟨ret_int (by rw [hS.out, hA.out, hF.out]; rfl), below_drewN HB.out _⟩
            · go_wp2
              go_loopw [7] (fun i wr => ∃ j q' : Nat, j ≤ m ∧ i = .int .i64 j ∧ wr = (w.alloc (.cells #[.slice a0 coef.length c0, .slice (some ⟨b, off, none⟩) vars.length c1, .int .i64 rel, .int .i64 c] 28)).drewN q' ∧ (List.range j).any (fun j => vars.getD j 0 == z) = false) (fun i _ => m - (intOf i).toNat)
              case atStart => exact ⟨0, q, by omega, rfl, rfl, rfl⟩
              case round =>
                obtain ⟨j, q', hj, rfl, rfl, hnot2⟩ := hrel
                have HM := Lib.hid hnot2
                clear hnot2
                by_cases hjm : j < m
                · have hcj := HC.out j (by omega)
                  obtain ⟨y, hy⟩ : ∃ y, y = vars[j]'(by omega) := ⟨_, rfl⟩
                  have HY : Hid (vars.getD j 0 = y) := by show _ = _; rw [hy]; simp [show j < vars.length by omega]
                  rw [← hy] at hcj
                  clear hy
                  have hmc : m < c1 := by omega
                  have hjc : j < c1 := by omega
                  cases hyz : (y == z) with
                  | true =>
                    have hF : Hid ((List.range vars.length).any (badV vars n) = true) := range_any_hit _ m _ hlt (by
                      have h3 : (vars.take m).any (z == ·) = true := by
                        rw [any_eq_range z vars m (by omega)]
                        exact range_any_hit _ j _ hjm (by rw [HY.out]; exact hyz)
                      rw [badV, HZ.out, h3]; simp)
                    go_wp2
                    go_quiet (fail)
                    go_wp2
                    go_ret
                    exact ⟨ret_int (by rw [hS.out, hA.out, hF.out]; rfl), below_drewN (below_drewN HB.out _) _⟩
                  | false =>
                    have hF := Lib.hid (range_any_step (fun j => vars.getD j 0 == z) j HM.out (by rw [HY.out]; exact hyz))
                    go_wp2
                    go_quiet (fail)
                    go_wp2
                    go_roundw
                    case rel => exact ⟨j + 1, _, by omega, by go_num, rfl, hF.out⟩
                    case measure => simp [intOf]; omega
                · have hF : Hid ((List.range (m + 1)).any (badV vars n) = false) := range_any_step _ m HN.out (by
                    have h3 : (vars.take m).any (z == ·) = false := by
                      rw [any_eq_range z vars m (by omega)]
                      have := HM.out
                      rwa [show j = m by omega] at this
                    rw [badV, HZ.out, h3]; simp; omega)
                  go_wp2
                  go_roundw
                  case rel => exact ⟨m + 1, _, by omega, by go_num, rfl, hF.out⟩
                  case measure => simp [intOf]; omega
        · have hF : Hid ((List.range vars.length).any (badV vars n) = false) := by have := HN.out; rwa [show m = vars.length by omega] at this
          go_wp2
          go_ret
          exact ⟨ret_int (by rw [hS.out, hA.out, hF.out]; rfl), below_drewN HB.out _⟩

end Go.Proofs.YtajooiainglpmaaGreat
namespace Go.Proofs.YtajooiainglpmaaGreat
open Go.RowKit

def manyB (coef vars : List Int) (ds : Ds) : Bool := decide (6 < ds.length) || decide (6 < vars.length) || decide (6 < coef.length) || ds.any fun d => decide (10 < d.length)
theorem many_ok {coef vars : List Int} {ds : Ds} (h : manyB coef vars ds = false) : ds.length ≤ 6 ∧ vars.length ≤ 6 ∧ coef.length ≤ 6 ∧ ∀ d ∈ ds, d.length ≤ 10 := by
  simp only [manyB, Bool.or_eq_false_iff, decide_eq_false_iff_not, List.any_eq_false, decide_eq_true_eq] at h
  obtain ⟨⟨⟨h1, h2⟩, h3⟩, h4⟩ := h
  exact ⟨by omega, by omega, by omega, fun d hd => by have := h4 d hd; omega⟩

/-- a sum that may be -/
theorem chk_good {coef vars : List Int} {rel c : Int} {ds : Ds} (h : linChk coef vars rel c ds.length = 0) (hd : ∀ d ∈ ds, d.length ≤ 4096) :
    GoodL coef vars ds ∧ (rel = 1 ∨ rel = 2 ∨ rel = 3) ∧ (-1099511627776 ≤ c ∧ c ≤ 1099511627776) ∧ (∀ z ∈ coef, z ≠ 0) ∧ vars.Nodup := by
  unfold linChk at h
  split at h
  · cases h
  · rename_i hs
    split at h
    · cases h
    · rename_i hv
      simp only [shapeB, Bool.or_eq_true, not_or, bne_iff_ne, ne_eq, Decidable.not_not, decide_eq_true_eq, Bool.not_eq_true, List.any_eq_false] at hs
      obtain ⟨⟨⟨⟨⟨⟨h1, h2⟩, h3⟩, h4⟩, h5⟩, h6⟩, h7⟩ := hs
      have hv' : ∀ k, k < vars.length → badV vars ds.length k = false := fun k hk => by
        simp only [Bool.not_eq_true, List.any_eq_false, List.mem_range] at hv
        exact hv k hk
      have hod : ∀ z ∈ coef, z ≠ 0 ∧ -100000 ≤ z ∧ z ≤ 100000 := fun z hz => by
        have := h7 z hz
        simp [oddB] at this
        omega
      have hb : ∀ k, (hk : k < vars.length) → 0 ≤ vars[k] ∧ vars[k] < ds.length ∧ ∀ j, (hj : j < k) → vars[k] ≠ vars[j]'(by omega) := fun k hk => by
        have := hv' k hk
        unfold badV at this
        rw [List.getD_eq_getElem?_getD, List.getElem?_eq_getElem hk, Option.getD_some] at this
        simp only [Bool.or_eq_false_iff, decide_eq_false_iff_not, List.any_eq_false, beq_iff_eq] at this
        refine ⟨by omega, by omega, fun j hj he => this.2 (vars[j]'(by omega)) ?_ he⟩
        rw [List.mem_take_iff_getElem]
        exact ⟨j, by omega, rfl⟩
      refine ⟨⟨h1, by omega, fun z hz => (hod z hz).2, fun v hv => ?_, hd⟩, by omega, ⟨by omega, by omega⟩, fun z hz => (hod z hz).1, ?_⟩
      · obtain ⟨k, hk, rfl⟩ := List.getElem_of_mem hv
        have := hb k hk; exact ⟨this.1, this.2.1⟩
      · rw [List.Nodup, List.pairwise_iff_getElem]
        intro i j hi hj hij he
        exact (hb j hj).2.2 i hij he.symm
theorem onceGo_short (rel c : Int) (ds : Ds) (lo hi : Int) : ∀ (ps : Ps) (out r : Ds), (∀ d ∈ out, d.length ≤ 201) → onceGo rel c ds lo hi ps out = some r → ∀ d ∈ r, d.length ≤ 201
  | [], out, r, h, e => by simp [onceGo] at e; subst e; exact h
  | p :: ps, out, r, h, e => by
    unfold onceGo at e
    split at e
    · cases e
    · refine onceGo_short rel c ds lo hi ps _ r (fun d hd => ?_) e
      rcases List.mem_or_eq_of_mem_set hd with h1 | h1
      · exact h d h1
      · rw [h1]; unfold narrowAt narrowL; exact canon_len _
theorem onceL_len (rel c : Int) (ds : Ds) (ps : Ps) (r : Ds) (h : onceL rel c ds ps = some r) (j : Nat) (hj : j < r.length) : r[j].length ≤ 201 := by
  unfold onceL at h
  split at h
  · split at h
    · cases h
    · refine onceGo_short _ _ _ _ _ _ _ _ (fun d hd => ?_) h _ (List.getElem_mem hj)
      obtain ⟨x, _, rfl⟩ := List.mem_map.1 hd
      exact norm_len x
  · cases h
theorem RetO.is {r : Ds} {w w' : World} {e : Ending} (h : RetO (some r) w e w') : ∃ ao cap, e = .returned (.tuple #[.slice ao r.length cap, .bool true]) ∧ DsAt w' (.slice ao r.length cap) r ∧ Below w.heap.size w w' := by
  obtain ⟨hb, ⟨ds, ao, cap, hr, he, hd⟩ | ⟨hr, _⟩⟩ := h
  · cases hr; exact ⟨ao, cap, he, hd, hb⟩
  · cases hr
theorem RetO.no {w w' : World} {e : Ending} (h : RetO none w e w') : e = .returned (.tuple #[.slice none 0 0, .bool false]) ∧ Below w.heap.size w w' := by
  obtain ⟨hb, ⟨ds, ao, cap, hr, he, hd⟩ | ⟨_, he⟩⟩ := h
  · cases hr
  · exact ⟨he, hb⟩
theorem linCheck_const (rel c n : Int) (W : World) : Calls Tryz.prog 43 #[.agg #[.slice none 0 0, .slice none 0 0, .int .i64 rel, .int .i64 c], .int .i64 n] W fun e w' => e = .returned (.int .i64 (linChk [] [] rel c n)) ∧ Below W.heap.size W w' :=
  linCheck_any _ _ rel c n [] [] W (show SlAt W 1 _ 0 [] from SlAt.nil) (show SlAt W 1 _ 0 [] from SlAt.nil) (by simp) (by simp)
def U16At (w : World) (v : Value) (zs : List Int) : Prop := SlAt w 1 v zs.length (zs.map (Value.int .u16))
theorem U16At.below {w w' : World} {v : Value} {zs : List Int} (h : U16At w v zs) (hb : Below w.heap.size w w') : U16At w' v zs := SlAt.below h hb
theorem U16At.get {w : World} {ao : Option Addr} {n cap : Nat} {zs : List Int} (h : U16At w (.slice ao n cap) zs) (k : Nat) (hk : k < zs.length) :
    ∃ b off, ao = some ⟨b, off, none⟩ ∧ zs.length ≤ cap ∧ b < w.heap.size ∧ w.cell? ⟨b, off + k, none⟩ = some (.int .u16 zs[k]) := by
  obtain ⟨b, off, c', he, hc, _, hb, hx⟩ := SlAt.pos h (by omega)
  simp only [Value.slice.injEq] at he
  obtain ⟨rfl, rfl, rfl⟩ := he
  exact ⟨b, off, rfl, hc, hb, by rw [hx k (by omega), List.getElem?_map, List.getElem?_eq_getElem hk]; rfl⟩
theorem getD_snoc_lt (xs : List Int) (v : Int) (j : Nat) (h : j < xs.length) : (xs ++ [v]).getD j 0 = xs.getD j 0 := by
  rw [List.getD_eq_getElem?_getD, List.getD_eq_getElem?_getD, List.getElem?_append_left h]
theorem getD_snoc_at (xs : List Int) (v : Int) : (xs ++ [v]).getD xs.length 0 = v := by
  rw [List.getD_eq_getElem?_getD, List.getElem?_append_right (Nat.le_refl _), Nat.sub_self]; rfl
theorem quietHere {P : Program} {f : FuncId} {args : Array Value} {w : World} {n : Nat} {v : Value} (h : Calls P f args (w.drewN n) fun e w' => e = .returned v ∧ w.drewN n = w') :
    Calls P f args (w.drewN n) fun e w'' => e = .returned v ∧ ∃ m, w'' = w.drewN m := h.mono fun _ _ ⟨he, hw⟩ => ⟨he, n, hw.symm⟩
end Go.Proofs.YtajooiainglpmaaGreat
namespace Go.Proofs.YtajooiainglpmaaGreat
open Go.RowKit

set_option maxRecDepth 100000 in
set_option maxHeartbeats 3200000 in
theorem sameDs_c (va vb : Value) (la lb : Ds) (w : World) (ha : DsAt w va la) (hb : DsAt w vb lb) (hla : la.length ≤ 4096) (hda : ∀ d ∈ la, d.length ≤ 4096) :
    Calls Tryz.prog 14 #[va, vb] w fun e w' => e = .returned (.bool (decide (la = lb))) ∧ Below w.heap.size w w' := by
  obtain ⟨ao, cap, rfl, _⟩ := ha.shape
  obtain ⟨ao2, cap2, rfl, _⟩ := hb.shape
  have HA := Lib.hid ha
  have HB := Lib.hid hb
  have HDA := Lib.hid hda
  clear ha hb hda
  by_cases h1 : la.length = lb.length
  case neg =>
    have hne : ((la.length : Int) != lb.length) = true := by simp; omega
    have H1 := Lib.hid h1
    clear h1
    go_enter Tryz.func14, Tryz.ntmps14
    go_wp2
    go_ret
    exact ⟨ret_bool (by symm; simp; intro h; exact H1.out (by rw [h])), Below.refl _ _⟩
  case pos =>
    have H1 := Lib.hid h1
    have hne : ((la.length : Int) != lb.length) = false := by rw [h1]; simp
    clear h1
    go_enter Tryz.func14, Tryz.ntmps14
    go_wp2
    go_loopw [5] (fun s wr => ∃ k : Nat, k ≤ la.length ∧ s = .int .i64 k ∧ Hid (la.take k = lb.take k) ∧ Hid (Below w.heap.size w wr)) (fun s _ => la.length - (intOf s).toNat)
    case atStart => exact ⟨0, by omega, rfl, rfl, Lib.hid (Below.refl _ _)⟩
    case round =>
      obtain ⟨k, hk, rfl, HE, HW⟩ := hrel
      by_cases hlt : k < la.length
      · have hlb : k < lb.length := by have := H1.out; omega
        obtain ⟨b1, o1, a1, c1, rfl, q1, q2, hj1, hc1, hr1⟩ := HA.out.get k hlt
        obtain ⟨b2, o2, a2, c2, rfl, q3, q4, hj2, hc2, hr2⟩ := HB.out.get k hlb
        clear hj1 hj2
        have j1 : (k : Int) < la.length := by omega
        have j2 : (k : Int) < lb.length := by omega
        rw [← HW.out.cell (p := ⟨b1, o1 + k, none⟩) q2] at hc1
        rw [← HW.out.cell (p := ⟨b2, o2 + k, none⟩) q4] at hc2
        have HS : Hid (la[k] = lb[k] → la.take (k + 1) = lb.take (k + 1)) := fun h => by
          rw [List.take_succ_eq_append_getElem hlt, List.take_succ_eq_append_getElem hlb, HE.out, h]
        have HN : Hid (la[k] ≠ lb[k] → la ≠ lb) := fun h he => by subst he; exact h rfl
        have hdl := HDA.out _ (List.getElem_mem hlt)
        have HR1 := Lib.hid hr1
        have HR2 := Lib.hid hr2
        clear hr1 hr2
        generalize la[k] = x at *
        generalize lb[k] = y at *
        have C1 := Lib.hid ((HW.out.cell (p := ⟨b1, o1 + k, none⟩) q2).symm.trans hc1)
        have C2 := Lib.hid ((HW.out.cell (p := ⟨b2, o2 + k, none⟩) q4).symm.trans hc2)
        by_cases hxy : x.length = y.length
        case neg =>
          have hn2 : ((x.length : Int) != y.length) = true := by simp; omega
          have HXY := Lib.hid hxy
          clear hxy
          go_wp2
          go_quiet (fail)
          go_wp2
          go_ret
          exact ⟨ret_bool (by symm; simp; exact HN.out (fun h => HXY.out (by rw [h]))), below_drewN HW.out _⟩
        case pos =>
          have hn2 : ((x.length : Int) != y.length) = false := by rw [hxy]; simp
          have HXY := Lib.hid hxy
          clear hxy
          go_wp2
          go_quiet (fail)
          go_wp2
          have HW2 := Lib.hid (below_drewN HW.out nq)
          clear hc1 hc2
          generalize wr.drewN nq = wo at *
          go_loopw [6] (fun s wr => ∃ j : Nat, j ≤ x.length ∧ s = .int .i64 j ∧ Hid (x.take j = y.take j) ∧ Hid (Below w.heap.size w wr)) (fun s _ => x.length - (intOf s).toNat)
          case atStart => exact ⟨0, by omega, rfl, rfl, HW2⟩
          case round =>
            obtain ⟨j, hj, rfl, HF, HV⟩ := hrel
            have hc1 := (HV.out.cell (p := ⟨b1, o1 + k, none⟩) q2).trans C1.out
            have hc2 := (HV.out.cell (p := ⟨b2, o2 + k, none⟩) q4).trans C2.out
            by_cases hjt : j < x.length
            · have hjy : j < y.length := by have := HXY.out; omega
              obtain ⟨b3, o3, c3, he3, hcap3, hbs3, hc3⟩ := RgAt.at HR1.out (by omega)
              simp only [Value.slice.injEq, true_and] at he3
              obtain ⟨rfl, rfl⟩ := he3
              obtain ⟨b4, o4, c4, he4, hcap4, hbs4, hc4⟩ := RgAt.at HR2.out (by omega)
              simp only [Value.slice.injEq, true_and] at he4
              obtain ⟨rfl, rfl⟩ := he4
              obtain ⟨d1, d2⟩ := hc3 j hjt
              obtain ⟨d3, d4⟩ := hc4 j hjy
              rw [← HV.out.cell (p := ⟨b3, o3 + j * 2, none⟩) hbs3] at d1
              rw [← HV.out.cell (p := ⟨b3, o3 + j * 2 + 1, none⟩) hbs3] at d2
              rw [← HV.out.cell (p := ⟨b4, o4 + j * 2, none⟩) hbs4] at d3
              rw [← HV.out.cell (p := ⟨b4, o4 + j * 2 + 1, none⟩) hbs4] at d4
              have i1 : (j : Int) < x.length := by omega
              have i2 : (j : Int) < y.length := by omega
              have HS2 : Hid (x[j] = y[j] → x.take (j + 1) = y.take (j + 1)) := fun h => by
                rw [List.take_succ_eq_append_getElem hjt, List.take_succ_eq_append_getElem hjy, HF.out, h]
              have HN2 : Hid (x[j] ≠ y[j] → la ≠ lb) := fun h => HN.out (fun he => by subst he; exact h rfl)
              clear hc3 hc4
              generalize x[j] = r at *
              generalize y[j] = s at *
              have f1 := neqRg r s
              have f2 := guardRg .neq
              by_cases hrs : r = s
              · have hd : decide (r ≠ s) = false := by simp [hrs]
                rw [hd] at f1
                have HRS := Lib.hid hrs
                clear hrs hd
                go_wp2
                go_quiet (fail)
                go_wp2
                exact ⟨⟨j + 1, by omega, by go_num, Lib.hid (HS2.out HRS.out), Lib.hid (below_drewN HV.out _)⟩, by simp [intOf]; omega⟩
              · have hd : decide (r ≠ s) = true := by simp [hrs]
                rw [hd] at f1
                have HRS := Lib.hid hrs
                clear hrs hd
                go_wp2
                go_quiet (fail)
                go_wp2
                go_ret
                exact ⟨ret_bool (by symm; simp; exact HN2.out HRS.out), below_drewN HV.out _⟩
            · obtain rfl : j = x.length := by omega
              have HXE : Hid (x = y) := by
                have h := HF.out
                rw [List.take_length, HXY.out, List.take_length] at h
                exact h
              go_wp2
              exact ⟨⟨k + 1, by omega, by go_num, Lib.hid (HS.out HXE.out), HV⟩, by simp [intOf]; omega⟩
      · obtain rfl : k = la.length := by omega
        have HXE : Hid (la = lb) := by
          have h := HE.out
          rw [List.take_length, H1.out, List.take_length] at h
          exact h
        go_wp2
        go_ret
        exact ⟨ret_bool (by symm; simpa using HXE.out), HW.out⟩
end Go.Proofs.YtajooiainglpmaaGreat
namespace Go.Proofs.YtajooiainglpmaaGreat
open Go.RowKit

/-- the domains, each met with the other one's -/
def smallAt (ds ot : Ds) (j : Nat) : List Rg := if j < ot.length then meetL (ds.getD j []) (ot.getD j []) else ds.getD j []
def smallD (ds ot : Ds) (k : Nat) : Ds := (List.range k).map (smallAt ds ot)
theorem smallD_len (ds ot : Ds) (k : Nat) : (smallD ds ot k).length = k := by simp [smallD]
theorem smallD_step (ds ot : Ds) (k : Nat) : smallD ds ot (k + 1) = smallD ds ot k ++ [smallAt ds ot k] := by simp [smallD, List.range_succ]
theorem smallD_get (ds ot : Ds) (k j : Nat) : (smallD ds ot k).getD j [] = if j < k then smallAt ds ot j else [] := by
  rw [List.getD_eq_getElem?_getD]
  by_cases h : j < k
  · rw [if_pos h, List.getElem?_eq_getElem (by rw [smallD_len]; exact h)]; simp [smallD]
  · rw [if_neg h, List.getElem?_eq_none (by rw [smallD_len]; omega)]; rfl
theorem small_sub (ds ot : Ds) (j : Nat) : SubD ((smallD ds ot ds.length).getD j []) (ds.getD j []) := fun x hx => by
  rw [smallD_get] at hx
  by_cases h : j < ds.length
  · rw [if_pos h] at hx
    unfold smallAt at hx
    split at hx
    · rw [memL_norm] at hx ⊢
      unfold meetL at hx
      rw [canon_mem] at hx
      simp only [Bool.and_eq_true] at hx ⊢
      exact ⟨hx.1, hx.2.2.1⟩
    · exact hx
  · rw [if_neg h] at hx
    have : norm ([] : List Rg) = [] := norm_of_normal (show Normal [] from trivial)
    rw [this, memL_nil] at hx; cases hx
theorem small_short (ds ot : Ds) (hd : ∀ d ∈ ds, d.length ≤ 10) (k : Nat) : ∀ d ∈ smallD ds ot k, d.length ≤ 201 := fun d hdm => by
  obtain ⟨j, _, rfl⟩ := List.mem_map.1 hdm
  unfold smallAt
  split
  · unfold meetL; exact canon_len _
  · rw [List.getD_eq_getElem?_getD]
    cases h : ds[j]? with
    | none => simp
    | some e => have := hd e (List.mem_of_getElem? h); simp; omega
theorem minus_none (a b : List Rg) (h : ∀ x, memL a x = true → memL b x = true) : minusL a b = [] := by
  refine (is_canon (show Normal [] from trivial) (fun n _ _ => ?_)).symm
  rw [memL_nil]
  cases ha : memL a n with
  | false => rfl
  | true => rw [h n ha]; rfl
end Go.Proofs.YtajooiainglpmaaGreat
namespace Go.Proofs.YtajooiainglpmaaGreat
open Go.RowKit Go.ChangeShapes Go.WideShapes Go.ChangeAt

theorem cellsRgsL : Tryz.prog.cellsOf 22 = 1 := by kernel_rfl
set_option maxRecDepth 100000 in
theorem rgs_of {H : Type} {enc : TypeId × Value → H} {w : World} {sp : Nat → Bool} {held : Bool} {fuel : Nat} {v : Value} {y : DataW H × List MemPlace}
    (h : DataW.trod enc Tryz.prog w 0 sp held fuel 22 [v] = some y) : ∃ rs : List Rg, RgAt w v rs := by
  obtain ⟨d, ps⟩ := y
  obtain ⟨n, xs, hS, hE⟩ := open_sl (k := 2) Tryz.underlying22 cellsRg h
  have hl := hS.len
  have hx : ∀ i, i < n → ∃ r : Rg, xs[i * 2]? = some (.int .i64 r.1) ∧ xs[i * 2 + 1]? = some (.int .i64 r.2) := fun i hi => by
    obtain ⟨m, y, hy⟩ := hE i hi
    obtain ⟨x0, x1, e0, e1, e2⟩ := pair_cut hl hi
    rw [e2] at hy
    obtain ⟨y0, y1, q, _, _, t0, t1⟩ := trod_struct2 Tryz.underlying32 hy
    obtain ⟨z0, hz0, _, _⟩ := DataW.trod_int Tryz.underlying3 t0
    obtain ⟨z1, hz1, _, _⟩ := DataW.trod_int Tryz.underlying3 t1
    refine ⟨(z0, z1), ?_, ?_⟩
    · rw [e0]; simp [cellsInt] at hz0; rw [hz0]
    · rw [e1]; simp [cellsInt] at hz1; rw [hz1]
  obtain ⟨f, hf⟩ := Deep.choose_lt hx
  refine ⟨(List.range n).map f, ?_⟩
  have e : xs = cellsR ((List.range n).map f) := by
    apply List.ext_getElem?
    intro t
    by_cases ht : t < n * 2
    · have hd : t / 2 < ((List.range n).map f).length := by simp; omega
      obtain ⟨a, b⟩ := cellsR_at ((List.range n).map f) (t / 2) hd
      obtain ⟨f0, f1⟩ := hf (t / 2) (by omega)
      have e3 : ((List.range n).map f)[t / 2] = f (t / 2) := by simp
      rw [e3] at a b
      rcases (show t % 2 = 0 ∨ t % 2 = 1 by omega) with h | h
      · rw [show xs[t]? = xs[t / 2 * 2]? by congr 1; omega, f0, show (cellsR ((List.range n).map f))[t]? = (cellsR ((List.range n).map f))[t / 2 * 2]? by congr 1; omega, a]
      · rw [show xs[t]? = xs[t / 2 * 2 + 1]? by congr 1; omega, f1, show (cellsR ((List.range n).map f))[t]? = (cellsR ((List.range n).map f))[t / 2 * 2 + 1]? by congr 1; omega, b]
    · rw [List.getElem?_eq_none (by omega), List.getElem?_eq_none (by rw [cellsR_length]; simp; omega)]
  unfold RgAt
  rw [← e]
  simpa using hS
set_option maxRecDepth 100000 in
theorem open_dss {H : Type} {enc : TypeId × Value → H} {w : World} {sp : Nat → Bool} {held : Bool} {base : Nat} {v : Value} {d : DataW H} {ps : List MemPlace}
    (hval : Value.okWide Tryz.prog w .any base 33 v) (h0 : DataW.Trod enc Tryz.prog w 0 sp held 33 v d ps) : ∃ ds : Ds, DsAt w v ds := by
  obtain ⟨a0, l0, c0, rfl⟩ := okWide_slice Tryz.underlying33 hval
  obtain ⟨fuel, h⟩ := Joins.field_of_Trod h0 rfl
  obtain ⟨n, us, hS, hE⟩ := open_sl (k := 1) Tryz.underlying33 cellsRgsL h
  have hl := hS.len
  have hx : ∀ i, i < n → ∃ r : List Rg, ∃ u, us[i]? = some u ∧ RgAt w u r := fun i hi => by
    obtain ⟨m, y, hy⟩ := hE i hi
    have hi' : i < us.length := by omega
    have e : (us.drop (i * 1)).take 1 = [us[i]] := by rw [Nat.mul_one, List.drop_eq_getElem_cons hi']; rfl
    rw [e] at hy
    obtain ⟨rs, hr⟩ := rgs_of hy
    exact ⟨rs, us[i], List.getElem?_eq_getElem hi', hr⟩
  obtain ⟨f, hf⟩ := Deep.choose_lt hx
  refine ⟨(List.range n).map f, us, by simp; omega, by simpa using hS, fun j hj => ?_⟩
  have hj' : j < n := by simpa using hj
  obtain ⟨u, e1, e2⟩ := hf j hj'
  exact ⟨u, e1, by simpa using e2⟩
/-- a slice of integers that comes in -/
theorem open_isL {H : Type} {enc : TypeId × Value → H} {w : World} {sp : Nat → Bool} {held : Bool} {fuel : Nat} {v : Value} {y : DataW H × List MemPlace}
    (h : DataW.trod enc Tryz.prog w 0 sp held fuel 26 [v] = some y) : ∃ zs : List Int, IsAt w v zs ∧ ∀ z ∈ zs, -9223372036854775808 ≤ z ∧ z ≤ 9223372036854775807 := by
  obtain ⟨d, ps⟩ := y
  obtain ⟨n, xs, hS, hE⟩ := open_sl (k := 1) Tryz.underlying26 cellsInt h
  have hx : ∀ i, i < n → ∃ z : Int, xs[i]? = some (.int .i64 z) ∧ (Lit.int .i64 z).wf = true := fun i hi => by
    obtain ⟨m, y, hy⟩ := hE i hi
    obtain ⟨z, hz, _, hwf⟩ := DataW.trod_int Tryz.underlying3 hy
    refine ⟨z, ?_, hwf⟩
    have := congrArg (·[0]?) hz
    simpa [List.getElem?_take, List.getElem?_drop] using this
  obtain ⟨f, hf⟩ := Deep.choose_lt hx
  have hl := hS.len
  have e : xs = ((List.range n).map f).map (Value.int .i64) := by
    apply List.ext_getElem?
    intro i
    by_cases hi : i < n
    · rw [(hf i hi).1]; simp [hi]
    · rw [List.getElem?_eq_none (by omega), List.getElem?_eq_none (by simp; omega)]
  refine ⟨(List.range n).map f, ?_, fun z hz => ?_⟩
  · unfold IsAt
    rw [← e]
    simpa using hS
  · obtain ⟨i, hi, rfl⟩ := List.mem_map.1 hz
    have := (hf i (by simpa using hi)).2
    simpa [Lit.wf, IntKind.min, IntKind.max, IntKind.bits, IntKind.signed] using this
theorem cellsLinL : Tryz.prog.cellsOf 28 = 4 := by kernel_rfl
set_option maxRecDepth 100000 in
/-- a sum that comes in -/
theorem open_lin {H : Type} {enc : TypeId × Value → H} {w : World} {base : Nat} {sp : Nat → Bool} {held : Bool} {v : Value} {d : DataW H} {ps : List MemPlace}
    (hval : Value.okWide Tryz.prog w .any base 28 v) (h : DataW.Trod enc Tryz.prog w 0 sp held 28 v d ps) :
    ∃ va vb rel c, ∃ coef vars : List Int, v = .agg #[va, vb, .int .i64 rel, .int .i64 c] ∧ IsAt w va coef ∧ IsAt w vb vars ∧ ((∀ z ∈ coef, -9223372036854775808 ≤ z ∧ z ≤ 9223372036854775807) ∧ (∀ z ∈ vars, -9223372036854775808 ≤ z ∧ z ≤ 9223372036854775807) ∧ (-9223372036854775808 ≤ rel ∧ rel ≤ 9223372036854775807) ∧ (-9223372036854775808 ≤ c ∧ c ≤ 9223372036854775807)) := by
  obtain ⟨c0, c1, c2, c3, y0, y1, y2, y3, m, rfl, rfl, rfl, h0, h1, h2, h3⟩ := Joins.open_agg4 Tryz.underlying28 (by kernel_rfl) cellsLinL hval h
  obtain ⟨z0, i0, b0⟩ := open_isL h0
  obtain ⟨z1, i1, b1⟩ := open_isL h1
  obtain ⟨r, e2, _, w2⟩ := DataW.trod_int Tryz.underlying3 h2
  obtain ⟨c, e3, _, w3⟩ := DataW.trod_int Tryz.underlying3 h3
  simp at e2 e3
  subst e2 e3
  exact ⟨c0, c1, r, c, z0, z1, rfl, i0, i1, b0, b1, by simpa [Lit.wf, IntKind.min, IntKind.max, IntKind.bits, IntKind.signed] using w2, by simpa [Lit.wf, IntKind.min, IntKind.max, IntKind.bits, IntKind.signed] using w3⟩
end Go.Proofs.YtajooiainglpmaaGreat
