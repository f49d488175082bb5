/-
  coneyref15.Check and the law LinChecks, walked.
  What the laws of layer 15 begin with: the bound, the check.
  SUMS AND LISTS OF SETS THAT COME IN.
  LISTS OF uint16 THAT COME IN.
-/
import Derived.Test.YtajooiainglpmaaGreatKlin2
import Derived.Test.YtajooiainglpmaaGreatKlin7
import Derived.Test.YtajooiainglpmaaGreatKdom4
namespace Go.Proofs.YtajooiainglpmaaGreat
open Go.RowKit

set_option maxHeartbeats 400000 in
theorem within_any (n lo hi : Int) (w : World) : Calls Tryz.prog 85 #[.int .i64 n, .int .i64 lo, .int .i64 hi] w fun e w' => e = .returned (.bool (decide (lo ≤ n) && decide (n ≤ hi))) ∧ w = w' := by
  by_cases h1 : lo ≤ n
  · by_cases h2 : n ≤ hi
    · go_enter Tryz.func85, Tryz.ntmps85
      go_wp2
      go_ret
      exact ⟨ret_bool (by simp [h1, h2]), rfl⟩
    · go_enter Tryz.func85, Tryz.ntmps85
      go_wp2
      go_ret
      exact ⟨ret_bool (by simp; omega), rfl⟩
  · have h1' : decide (lo ≤ n) = false := by simpa using h1
    go_enter Tryz.func85, Tryz.ntmps85
    go_wp2
    go_ret
    exact ⟨ret_bool (by simp), rfl⟩

theorem any_eq_range (z : Int) (l : List Int) (k : Nat) (hk : k ≤ l.length) : (l.take k).any (z == ·) = (List.range k).any (fun j => l.getD j 0 == z) := by
  rw [Bool.eq_iff_iff, List.any_eq_true, List.any_eq_true]
  constructor
  · rintro ⟨x, hx, he⟩
    obtain ⟨j, hj, rfl⟩ := List.mem_take_iff_getElem.1 hx
    refine ⟨j, by simp; omega, ?_⟩
    rw [beq_iff_eq] at he ⊢
    rw [he]; simp [show j < l.length by omega]
  · rintro ⟨j, hj, he⟩
    have hj' : j < k := by simpa using hj
    refine ⟨l.getD j 0, ?_, by rw [beq_iff_eq] at he ⊢; exact he.symm⟩
    rw [List.mem_take_iff_getElem]
    exact ⟨j, by omega, by simp [show j < l.length by omega]⟩

set_option maxHeartbeats 3200000 in
theorem refCheck_any (v0 v1 : Value) (rel c n : Int) (coef vars : List Int) (w : World) (h0 : IsAt w v0 coef) (h1 : IsAt w v1 vars) (hl0 : coef.length ≤ 4096) (hl1 : vars.length ≤ 4096) :
    Calls Tryz.prog 70 #[.agg #[v0, v1, .int .i64 rel, .int .i64 c], .int .i64 n] w fun e w' => e = .returned (.int .i64 (linChk coef vars rel c n)) ∧ Below w.heap.size w w' := by
  obtain ⟨a0, c0, rfl, _⟩ := h0.shape
  obtain ⟨a1, c1, rfl, _⟩ := h1.shape
  have hB : Below w.heap.size w (w.alloc (.cells #[.slice a0 coef.length c0, .slice a1 vars.length c1, .int .i64 rel, .int .i64 c] 28)) := (Below.refl _ _).alloc (Nat.le_refl _) _
  have H0 := Lib.hid (h0.below hB)
  have H1 := Lib.hid (h1.below hB)
  clear h0 h1
  by_cases e1 : coef.length ≠ vars.length
  · have e1' : ((coef.length : Int) != (vars.length : Int)) = true := by simp; omega
    have hS : Hid (linChk coef vars rel c n = 150) := by show _ = _; simp [linChk, shapeB, e1]
    go_enter Tryz.func70, Tryz.ntmps70
    go_wp2_with (first | (go_at_call 85; ((with_reducible refine (within_any _ _ _ _).mono ?_); rintro e w' ⟨rfl, rfl⟩)))
    go_ret
    exact ⟨ret_int hS.out.symm, hB⟩
  have e1' : ((coef.length : Int) != (vars.length : Int)) = false := by simp; omega
  have e1'' : (coef.length != vars.length) = false := by simp; omega
  have E1 := Lib.hid e1''
  clear e1 e1''
  by_cases e2 : 16 < coef.length
  · have hS : Hid (linChk coef vars rel c n = 150) := by show _ = _; simp [linChk, shapeB, e2]
    go_enter Tryz.func70, Tryz.ntmps70
    go_wp2_with (first | (go_at_call 85; ((with_reducible refine (within_any _ _ _ _).mono ?_); rintro e w' ⟨rfl, rfl⟩)))
    go_ret
    exact ⟨ret_int hS.out.symm, hB⟩
  by_cases e3 : rel < 1
  · have e3' : decide (1 ≤ rel) = false := by simp; omega
    have hS : Hid (linChk coef vars rel c n = 150) := by show _ = _; simp [linChk, shapeB, e3]
    go_enter Tryz.func70, Tryz.ntmps70
    go_wp2_with (first | (go_at_call 85; ((with_reducible refine (within_any _ _ _ _).mono ?_); rintro e w' ⟨rfl, rfl⟩)))
    go_ret
    exact ⟨ret_int hS.out.symm, hB⟩
  by_cases e4 : 3 < rel
  · have e4' : decide (rel ≤ 3) = false := by simp; omega
    have hS : Hid (linChk coef vars rel c n = 150) := by show _ = _; simp [linChk, shapeB, e4]
    go_enter Tryz.func70, Tryz.ntmps70
    go_wp2_with (first | (go_at_call 85; ((with_reducible refine (within_any _ _ _ _).mono ?_); rintro e w' ⟨rfl, rfl⟩)))
    go_ret
    exact ⟨ret_int hS.out.symm, hB⟩
  by_cases e5 : c < -1099511627776
  · have e5' : decide (-1099511627776 ≤ c) = false := by simp; omega
    have hS : Hid (linChk coef vars rel c n = 150) := by show _ = _; simp [linChk, shapeB, e5]
    go_enter Tryz.func70, Tryz.ntmps70
    go_wp2_with (first | (go_at_call 85; ((with_reducible refine (within_any _ _ _ _).mono ?_); rintro e w' ⟨rfl, rfl⟩)))
    go_ret
    exact ⟨ret_int hS.out.symm, hB⟩
  by_cases e6 : 1099511627776 < c
  · have e6' : decide (c ≤ 1099511627776) = false := by simp; omega
    have hS : Hid (linChk coef vars rel c n = 150) := by show _ = _; simp [linChk, shapeB, e6]
    go_enter Tryz.func70, Tryz.ntmps70
    go_wp2_with (first | (go_at_call 85; ((with_reducible refine (within_any _ _ _ _).mono ?_); rintro e w' ⟨rfl, rfl⟩)))
    go_ret
    exact ⟨ret_int hS.out.symm, hB⟩
  have hS : Hid (linChk coef vars rel c n = if coef.any oddB = true then 150 else if (List.range vars.length).any (badV vars n) = true then 160 else 0) := by
    show _ = _
    have := E1.out
    simp [linChk, shapeB, this, e2, e3, e4, e5, e6]
  have e3' : decide (1 ≤ rel) = true := by simp; omega
  have e4' : decide (rel ≤ 3) = true := by simp; omega
  have e5' : decide (-1099511627776 ≤ c) = true := by simp; omega
  have e6' : decide (c ≤ 1099511627776) = true := by simp; omega
  go_enter Tryz.func70, Tryz.ntmps70
  go_wp2_with (first | (go_at_call 85; ((with_reducible refine (within_any _ _ _ _).mono ?_); rintro e w' ⟨rfl, rfl⟩)))
  clear e3' e4' e5' e6' e1'
  go_loop [5] (fun i => ∃ k : Nat, k ≤ coef.length ∧ i = .int .i64 k ∧ (coef.take k).any oddB = false) (fun i => coef.length - (intOf i).toNat)
  case atStart => exact ⟨0, by omega, rfl, by simp⟩
  case round =>
    obtain ⟨k, hk, rfl, hnot⟩ := hrel
    have HN := Lib.hid hnot
    clear hnot
    by_cases hlt : k < coef.length
    · obtain ⟨b, off, cap', he, hcap, _, hc⟩ := IsAt.at H0.out (by omega)
      simp only [Value.slice.injEq, true_and] at he
      obtain ⟨rfl, rfl⟩ := he
      have hcell := hc k hlt
      clear hc
      obtain ⟨z, hz⟩ : ∃ z, z = coef[k] := ⟨_, rfl⟩
      rw [← hz] at hcell
      cases ho : oddB z with
      | true =>
        have hA : Hid (coef.any oddB = true) := by show _ = _; rw [List.any_eq_true]; exact ⟨coef[k], List.getElem_mem hlt, by rw [← hz]; exact ho⟩
        clear hz
        by_cases z1 : -100000 ≤ z
        · by_cases z2 : z ≤ 100000
          · have z0 : z = 0 := by simp [oddB] at ho; omega
            subst z0
            clear ho
            go_wp2_with (first | (go_at_call 85; ((with_reducible refine (within_any _ _ _ _).mono ?_); rintro e w' ⟨rfl, rfl⟩)))
            go_ret
            exact ⟨ret_int (by rw [hS.out, hA.out]; rfl), hB⟩
          · have z1' : decide (-100000 ≤ z) = true := by simpa using z1
            have z2' : decide (z ≤ 100000) = false := by simpa using z2
            clear ho
            go_wp2_with (first | (go_at_call 85; ((with_reducible refine (within_any _ _ _ _).mono ?_); rintro e w' ⟨rfl, rfl⟩)))
            go_ret
            exact ⟨ret_int (by rw [hS.out, hA.out]; rfl), hB⟩
        · have z1' : decide (-100000 ≤ z) = false := by simpa using z1
          clear ho
          go_wp2_with (first | (go_at_call 85; ((with_reducible refine (within_any _ _ _ _).mono ?_); rintro e w' ⟨rfl, rfl⟩)))
          go_ret
          exact ⟨ret_int (by rw [hS.out, hA.out]; rfl), hB⟩
      | false =>
        have hF := Lib.hid (any_take_step oddB coef k hlt HN.out (by rw [← hz]; exact ho))
        clear hz
        have z1' : decide (-100000 ≤ z) = true := by simp [oddB] at ho; simp; omega
        have z2' : decide (z ≤ 100000) = true := by simp [oddB] at ho; simp; omega
        have z0' : (z == 0) = false := by simp [oddB] at ho; simp; omega
        clear ho
        go_wp2_with (first | (go_at_call 85; ((with_reducible refine (within_any _ _ _ _).mono ?_); rintro e w' ⟨rfl, rfl⟩)))
        go_round
        case rel => exact ⟨k + 1, by omega, by go_num, hF.out⟩
        case measure => simp [intOf]; omega
    · have hA : Hid (coef.any oddB = false) := by have := HN.out; rwa [List.take_of_length_le (by omega)] at this
      clear HN
      have HB := Lib.hid hB
      clear hB
      clear H0
      go_wp2
      go_loopw [6] (fun i wr => ∃ k q : Nat, k ≤ vars.length ∧ i = .int .i64 k ∧ wr = (w.alloc (.cells #[.slice a0 coef.length c0, .slice a1 vars.length c1, .int .i64 rel, .int .i64 c] 28)).drewN q ∧ (List.range k).any (badV vars n) = false) (fun i _ => vars.length - (intOf i).toNat)
      case atStart => exact ⟨0, 0, by omega, rfl, rfl, rfl⟩
      case round =>
        obtain ⟨m, q, hm, rfl, rfl, hnot⟩ := hrel
        have HN := Lib.hid hnot
        clear hnot
        by_cases hlt : m < vars.length
        · obtain ⟨b, off, cap', he, hcap, _, hc⟩ := IsAt.at H1.out (by omega)
          simp only [Value.slice.injEq, true_and] at he
          obtain ⟨rfl, rfl⟩ := he
          have HC := Lib.hid hc
          have hcell := hc m hlt
          clear hc
          obtain ⟨z, hz⟩ : ∃ z, z = vars[m] := ⟨_, rfl⟩
          have HZ : Hid (vars.getD m 0 = z) := by show _ = _; rw [hz]; simp [hlt]
          rw [← hz] at hcell
          clear hz
          by_cases z1 : z < 0
          · have hF : Hid ((List.range vars.length).any (badV vars n) = true) := range_any_hit _ m _ hlt (by rw [badV, HZ.out]; simp [z1])
            go_wp2
            go_ret
            exact ⟨ret_int (by rw [hS.out, hA.out, hF.out]; rfl), below_drewN HB.out _⟩
          · by_cases z2 : n ≤ z
            · have hF : Hid ((List.range vars.length).any (badV vars n) = true) := range_any_hit _ m _ hlt (by rw [badV, HZ.out]; simp [z2])
              go_wp2
              go_ret
              exact ⟨ret_int (by rw [hS.out, hA.out, hF.out]; rfl), below_drewN HB.out _⟩
            · go_wp2
              go_loopw [7] (fun i wr => ∃ j q' : Nat, j ≤ m ∧ i = .int .i64 j ∧ wr = (w.alloc (.cells #[.slice a0 coef.length c0, .slice (some ⟨b, off, none⟩) vars.length c1, .int .i64 rel, .int .i64 c] 28)).drewN q' ∧ (List.range j).any (fun j => vars.getD j 0 == z) = false) (fun i _ => m - (intOf i).toNat)
              case atStart => exact ⟨0, q, by omega, rfl, rfl, rfl⟩
              case round =>
                obtain ⟨j, q', hj, rfl, rfl, hnot2⟩ := hrel
                have HM := Lib.hid hnot2
                clear hnot2
                by_cases hjm : j < m
                · have hcj := HC.out j (by omega)
                  obtain ⟨y, hy⟩ : ∃ y, y = vars[j]'(by omega) := ⟨_, rfl⟩
                  have HY : Hid (vars.getD j 0 = y) := by show _ = _; rw [hy]; simp [show j < vars.length by omega]
                  rw [← hy] at hcj
                  clear hy
                  have hmc : m < c1 := by omega
                  have hjc : j < c1 := by omega
                  cases hyz : (y == z) with
                  | true =>
                    have hF : Hid ((List.range vars.length).any (badV vars n) = true) := range_any_hit _ m _ hlt (by
                      have h3 : (vars.take m).any (z == ·) = true := by
                        rw [any_eq_range z vars m (by omega)]
                        exact range_any_hit _ j _ hjm (by rw [HY.out]; exact hyz)
                      rw [badV, HZ.out, h3]; simp)
                    go_wp2
                    go_quiet (fail)
                    go_wp2
                    go_ret
                    exact ⟨ret_int (by rw [hS.out, hA.out, hF.out]; rfl), below_drewN (below_drewN HB.out _) _⟩
                  | false =>
                    have hF := Lib.hid (range_any_step (fun j => vars.getD j 0 == z) j HM.out (by rw [HY.out]; exact hyz))
                    go_wp2
                    go_quiet (fail)
                    go_wp2
                    go_roundw
                    case rel => exact ⟨j + 1, _, by omega, by go_num, rfl, hF.out⟩
                    case measure => simp [intOf]; omega
                · have hF : Hid ((List.range (m + 1)).any (badV vars n) = false) := range_any_step _ m HN.out (by
                    have h3 : (vars.take m).any (z == ·) = false := by
                      rw [any_eq_range z vars m (by omega)]
                      have := HM.out
                      rwa [show j = m by omega] at this
                    rw [badV, HZ.out, h3]; simp; omega)
                  go_wp2
                  go_roundw
                  case rel => exact ⟨m + 1, _, by omega, by go_num, rfl, hF.out⟩
                  case measure => simp [intOf]; omega
        · have hF : Hid ((List.range vars.length).any (badV vars n) = false) := by have := HN.out; rwa [show m = vars.length by omega] at this
          go_wp2
          go_ret
          exact ⟨ret_int (by rw [hS.out, hA.out, hF.out]; rfl), below_drewN HB.out _⟩

end Go.Proofs.YtajooiainglpmaaGreat
namespace Go.Proofs.YtajooiainglpmaaGreat
open Go.RowKit

def manyB (coef vars : List Int) (ds : Ds) : Bool := decide (6 < ds.length) || decide (6 < vars.length) || decide (6 < coef.length) || ds.any fun d => decide (10 < d.length)
theorem many_ok {coef vars : List Int} {ds : Ds} (h : manyB coef vars ds = false) : ds.length ≤ 6 ∧ vars.length ≤ 6 ∧ coef.length ≤ 6 ∧ ∀ d ∈ ds, d.length ≤ 10 := by
  simp only [manyB, Bool.or_eq_false_iff, decide_eq_false_iff_not, List.any_eq_false, decide_eq_true_eq] at h
  obtain ⟨⟨⟨h1, h2⟩, h3⟩, h4⟩ := h
  exact ⟨by omega, by omega, by omega, fun d hd => by have := h4 d hd; omega⟩

/-- a sum that may be -/
theorem chk_good {coef vars : List Int} {rel c : Int} {ds : Ds} (h : linChk coef vars rel c ds.length = 0) (hd : ∀ d ∈ ds, d.length ≤ 4096) :
    GoodL coef vars ds ∧ (rel = 1 ∨ rel = 2 ∨ rel = 3) ∧ (-1099511627776 ≤ c ∧ c ≤ 1099511627776) ∧ (∀ z ∈ coef, z ≠ 0) ∧ vars.Nodup := by
  unfold linChk at h
  split at h
  · cases h
  · rename_i hs
    split at h
    · cases h
    · rename_i hv
      simp only [shapeB, Bool.or_eq_true, not_or, bne_iff_ne, ne_eq, Decidable.not_not, decide_eq_true_eq, Bool.not_eq_true, List.any_eq_false] at hs
      obtain ⟨⟨⟨⟨⟨⟨h1, h2⟩, h3⟩, h4⟩, h5⟩, h6⟩, h7⟩ := hs
      have hv' : ∀ k, k < vars.length → badV vars ds.length k = false := fun k hk => by
        simp only [Bool.not_eq_true, List.any_eq_false, List.mem_range] at hv
        exact hv k hk
      have hod : ∀ z ∈ coef, z ≠ 0 ∧ -100000 ≤ z ∧ z ≤ 100000 := fun z hz => by
        have := h7 z hz
        simp [oddB] at this
        omega
      have hb : ∀ k, (hk : k < vars.length) → 0 ≤ vars[k] ∧ vars[k] < ds.length ∧ ∀ j, (hj : j < k) → vars[k] ≠ vars[j]'(by omega) := fun k hk => by
        have := hv' k hk
        unfold badV at this
        rw [List.getD_eq_getElem?_getD, List.getElem?_eq_getElem hk, Option.getD_some] at this
        simp only [Bool.or_eq_false_iff, decide_eq_false_iff_not, List.any_eq_false, beq_iff_eq] at this
        refine ⟨by omega, by omega, fun j hj he => this.2 (vars[j]'(by omega)) ?_ he⟩
        rw [List.mem_take_iff_getElem]
        exact ⟨j, by omega, rfl⟩
      refine ⟨⟨h1, by omega, fun z hz => (hod z hz).2, fun v hv => ?_, hd⟩, by omega, ⟨by omega, by omega⟩, fun z hz => (hod z hz).1, ?_⟩
      · obtain ⟨k, hk, rfl⟩ := List.getElem_of_mem hv
        have := hb k hk; exact ⟨this.1, this.2.1⟩
      · rw [List.Nodup, List.pairwise_iff_getElem]
        intro i j hi hj hij he
        exact (hb j hj).2.2 i hij he.symm
theorem onceGo_short (rel c : Int) (ds : Ds) (lo hi : Int) : ∀ (ps : Ps) (out r : Ds), (∀ d ∈ out, d.length ≤ 201) → onceGo rel c ds lo hi ps out = some r → ∀ d ∈ r, d.length ≤ 201
  | [], out, r, h, e => by simp [onceGo] at e; subst e; exact h
  | p :: ps, out, r, h, e => by
    unfold onceGo at e
    split at e
    · cases e
    · refine onceGo_short rel c ds lo hi ps _ r (fun d hd => ?_) e
      rcases List.mem_or_eq_of_mem_set hd with h1 | h1
      · exact h d h1
      · rw [h1]; unfold narrowAt narrowL; exact canon_len _
theorem onceL_len (rel c : Int) (ds : Ds) (ps : Ps) (r : Ds) (h : onceL rel c ds ps = some r) (j : Nat) (hj : j < r.length) : r[j].length ≤ 201 := by
  unfold onceL at h
  split at h
  · split at h
    · cases h
    · refine onceGo_short _ _ _ _ _ _ _ _ (fun d hd => ?_) h _ (List.getElem_mem hj)
      obtain ⟨x, _, rfl⟩ := List.mem_map.1 hd
      exact norm_len x
  · cases h
theorem RetO.is {r : Ds} {w w' : World} {e : Ending} (h : RetO (some r) w e w') : ∃ ao cap, e = .returned (.tuple #[.slice ao r.length cap, .bool true]) ∧ DsAt w' (.slice ao r.length cap) r ∧ Below w.heap.size w w' := by
  obtain ⟨hb, ⟨ds, ao, cap, hr, he, hd⟩ | ⟨hr, _⟩⟩ := h
  · cases hr; exact ⟨ao, cap, he, hd, hb⟩
  · cases hr
theorem RetO.no {w w' : World} {e : Ending} (h : RetO none w e w') : e = .returned (.tuple #[.slice none 0 0, .bool false]) ∧ Below w.heap.size w w' := by
  obtain ⟨hb, ⟨ds, ao, cap, hr, he, hd⟩ | ⟨_, he⟩⟩ := h
  · cases hr
  · exact ⟨he, hb⟩
theorem linCheck_const (rel c n : Int) (W : World) : Calls Tryz.prog 43 #[.agg #[.slice none 0 0, .slice none 0 0, .int .i64 rel, .int .i64 c], .int .i64 n] W fun e w' => e = .returned (.int .i64 (linChk [] [] rel c n)) ∧ Below W.heap.size W w' :=
  linCheck_any _ _ rel c n [] [] W (show SlAt W 1 _ 0 [] from SlAt.nil) (show SlAt W 1 _ 0 [] from SlAt.nil) (by simp) (by simp)
def U16At (w : World) (v : Value) (zs : List Int) : Prop := SlAt w 1 v zs.length (zs.map (Value.int .u16))
theorem U16At.below {w w' : World} {v : Value} {zs : List Int} (h : U16At w v zs) (hb : Below w.heap.size w w') : U16At w' v zs := SlAt.below h hb
theorem U16At.get {w : World} {ao : Option Addr} {n cap : Nat} {zs : List Int} (h : U16At w (.slice ao n cap) zs) (k : Nat) (hk : k < zs.length) :
    ∃ b off, ao = some ⟨b, off, none⟩ ∧ zs.length ≤ cap ∧ b < w.heap.size ∧ w.cell? ⟨b, off + k, none⟩ = some (.int .u16 zs[k]) := by
  obtain ⟨b, off, c', he, hc, _, hb, hx⟩ := SlAt.pos h (by omega)
  simp only [Value.slice.injEq] at he
  obtain ⟨rfl, rfl, rfl⟩ := he
  exact ⟨b, off, rfl, hc, hb, by rw [hx k (by omega), List.getElem?_map, List.getElem?_eq_getElem hk]; rfl⟩
theorem getD_snoc_lt (xs : List Int) (v : Int) (j : Nat) (h : j < xs.length) : (xs ++ [v]).getD j 0 = xs.getD j 0 := by
  rw [List.getD_eq_getElem?_getD, List.getD_eq_getElem?_getD, List.getElem?_append_left h]
theorem getD_snoc_at (xs : List Int) (v : Int) : (xs ++ [v]).getD xs.length 0 = v := by
  rw [List.getD_eq_getElem?_getD, List.getElem?_append_right (Nat.le_refl _), Nat.sub_self]; rfl
theorem quietHere {P : Program} {f : FuncId} {args : Array Value} {w : World} {n : Nat} {v : Value} (h : Calls P f args (w.drewN n) fun e w' => e = .returned v ∧ w.drewN n = w') :
    Calls P f args (w.drewN n) fun e w'' => e = .returned v ∧ ∃ m, w'' = w.drewN m := h.mono fun _ _ ⟨he, hw⟩ => ⟨he, n, hw.symm⟩
end Go.Proofs.YtajooiainglpmaaGreat
namespace Go.Proofs.YtajooiainglpmaaGreat
open Go.RowKit Go.ChangeShapes Go.WideShapes Go.ChangeAt

theorem cellsRgsL : Tryz.prog.cellsOf 22 = 1 := by kernel_rfl
set_option maxRecDepth 100000 in
theorem rgs_of {H : Type} {enc : TypeId × Value → H} {w : World} {sp : Nat → Bool} {held : Bool} {fuel : Nat} {v : Value} {y : DataW H × List MemPlace}
    (h : DataW.trod enc Tryz.prog w 0 sp held fuel 22 [v] = some y) : ∃ rs : List Rg, RgAt w v rs := by
  obtain ⟨d, ps⟩ := y
  obtain ⟨n, xs, hS, hE⟩ := open_sl (k := 2) Tryz.underlying22 cellsRg h
  have hl := hS.len
  have hx : ∀ i, i < n → ∃ r : Rg, xs[i * 2]? = some (.int .i64 r.1) ∧ xs[i * 2 + 1]? = some (.int .i64 r.2) := fun i hi => by
    obtain ⟨m, y, hy⟩ := hE i hi
    obtain ⟨x0, x1, e0, e1, e2⟩ := pair_cut hl hi
    rw [e2] at hy
    obtain ⟨y0, y1, q, _, _, t0, t1⟩ := trod_struct2 Tryz.underlying32 hy
    obtain ⟨z0, hz0, _, _⟩ := DataW.trod_int Tryz.underlying3 t0
    obtain ⟨z1, hz1, _, _⟩ := DataW.trod_int Tryz.underlying3 t1
    refine ⟨(z0, z1), ?_, ?_⟩
    · rw [e0]; simp [cellsInt] at hz0; rw [hz0]
    · rw [e1]; simp [cellsInt] at hz1; rw [hz1]
  obtain ⟨f, hf⟩ := Deep.choose_lt hx
  refine ⟨(List.range n).map f, ?_⟩
  have e : xs = cellsR ((List.range n).map f) := by
    apply List.ext_getElem?
    intro t
    by_cases ht : t < n * 2
    · have hd : t / 2 < ((List.range n).map f).length := by simp; omega
      obtain ⟨a, b⟩ := cellsR_at ((List.range n).map f) (t / 2) hd
      obtain ⟨f0, f1⟩ := hf (t / 2) (by omega)
      have e3 : ((List.range n).map f)[t / 2] = f (t / 2) := by simp
      rw [e3] at a b
      rcases (show t % 2 = 0 ∨ t % 2 = 1 by omega) with h | h
      · rw [show xs[t]? = xs[t / 2 * 2]? by congr 1; omega, f0, show (cellsR ((List.range n).map f))[t]? = (cellsR ((List.range n).map f))[t / 2 * 2]? by congr 1; omega, a]
      · rw [show xs[t]? = xs[t / 2 * 2 + 1]? by congr 1; omega, f1, show (cellsR ((List.range n).map f))[t]? = (cellsR ((List.range n).map f))[t / 2 * 2 + 1]? by congr 1; omega, b]
    · rw [List.getElem?_eq_none (by omega), List.getElem?_eq_none (by rw [cellsR_length]; simp; omega)]
  unfold RgAt
  rw [← e]
  simpa using hS
set_option maxRecDepth 100000 in
theorem open_dss {H : Type} {enc : TypeId × Value → H} {w : World} {sp : Nat → Bool} {held : Bool} {base : Nat} {v : Value} {d : DataW H} {ps : List MemPlace}
    (hval : Value.okWide Tryz.prog w .any base 33 v) (h0 : DataW.Trod enc Tryz.prog w 0 sp held 33 v d ps) : ∃ ds : Ds, DsAt w v ds := by
  obtain ⟨a0, l0, c0, rfl⟩ := okWide_slice Tryz.underlying33 hval
  obtain ⟨fuel, h⟩ := Joins.field_of_Trod h0 rfl
  obtain ⟨n, us, hS, hE⟩ := open_sl (k := 1) Tryz.underlying33 cellsRgsL h
  have hl := hS.len
  have hx : ∀ i, i < n → ∃ r : List Rg, ∃ u, us[i]? = some u ∧ RgAt w u r := fun i hi => by
    obtain ⟨m, y, hy⟩ := hE i hi
    have hi' : i < us.length := by omega
    have e : (us.drop (i * 1)).take 1 = [us[i]] := by rw [Nat.mul_one, List.drop_eq_getElem_cons hi']; rfl
    rw [e] at hy
    obtain ⟨rs, hr⟩ := rgs_of hy
    exact ⟨rs, us[i], List.getElem?_eq_getElem hi', hr⟩
  obtain ⟨f, hf⟩ := Deep.choose_lt hx
  refine ⟨(List.range n).map f, us, by simp; omega, by simpa using hS, fun j hj => ?_⟩
  have hj' : j < n := by simpa using hj
  obtain ⟨u, e1, e2⟩ := hf j hj'
  exact ⟨u, e1, by simpa using e2⟩
/-- a slice of integers that comes in -/
theorem open_isL {H : Type} {enc : TypeId × Value → H} {w : World} {sp : Nat → Bool} {held : Bool} {fuel : Nat} {v : Value} {y : DataW H × List MemPlace}
    (h : DataW.trod enc Tryz.prog w 0 sp held fuel 26 [v] = some y) : ∃ zs : List Int, IsAt w v zs ∧ ∀ z ∈ zs, -9223372036854775808 ≤ z ∧ z ≤ 9223372036854775807 := by
  obtain ⟨d, ps⟩ := y
  obtain ⟨n, xs, hS, hE⟩ := open_sl (k := 1) Tryz.underlying26 cellsInt h
  have hx : ∀ i, i < n → ∃ z : Int, xs[i]? = some (.int .i64 z) ∧ (Lit.int .i64 z).wf = true := fun i hi => by
    obtain ⟨m, y, hy⟩ := hE i hi
    obtain ⟨z, hz, _, hwf⟩ := DataW.trod_int Tryz.underlying3 hy
    refine ⟨z, ?_, hwf⟩
    have := congrArg (·[0]?) hz
    simpa [List.getElem?_take, List.getElem?_drop] using this
  obtain ⟨f, hf⟩ := Deep.choose_lt hx
  have hl := hS.len
  have e : xs = ((List.range n).map f).map (Value.int .i64) := by
    apply List.ext_getElem?
    intro i
    by_cases hi : i < n
    · rw [(hf i hi).1]; simp [hi]
    · rw [List.getElem?_eq_none (by omega), List.getElem?_eq_none (by simp; omega)]
  refine ⟨(List.range n).map f, ?_, fun z hz => ?_⟩
  · unfold IsAt
    rw [← e]
    simpa using hS
  · obtain ⟨i, hi, rfl⟩ := List.mem_map.1 hz
    have := (hf i (by simpa using hi)).2
    simpa [Lit.wf, IntKind.min, IntKind.max, IntKind.bits, IntKind.signed] using this
theorem cellsLinL : Tryz.prog.cellsOf 28 = 4 := by kernel_rfl
set_option maxRecDepth 100000 in
/-- a sum that comes in -/
theorem open_lin {H : Type} {enc : TypeId × Value → H} {w : World} {base : Nat} {sp : Nat → Bool} {held : Bool} {v : Value} {d : DataW H} {ps : List MemPlace}
    (hval : Value.okWide Tryz.prog w .any base 28 v) (h : DataW.Trod enc Tryz.prog w 0 sp held 28 v d ps) :
    ∃ va vb rel c, ∃ coef vars : List Int, v = .agg #[va, vb, .int .i64 rel, .int .i64 c] ∧ IsAt w va coef ∧ IsAt w vb vars ∧ ((∀ z ∈ coef, -9223372036854775808 ≤ z ∧ z ≤ 9223372036854775807) ∧ (∀ z ∈ vars, -9223372036854775808 ≤ z ∧ z ≤ 9223372036854775807) ∧ (-9223372036854775808 ≤ rel ∧ rel ≤ 9223372036854775807) ∧ (-9223372036854775808 ≤ c ∧ c ≤ 9223372036854775807)) := by
  obtain ⟨c0, c1, c2, c3, y0, y1, y2, y3, m, rfl, rfl, rfl, h0, h1, h2, h3⟩ := Joins.open_agg4 Tryz.underlying28 (by kernel_rfl) cellsLinL hval h
  obtain ⟨z0, i0, b0⟩ := open_isL h0
  obtain ⟨z1, i1, b1⟩ := open_isL h1
  obtain ⟨r, e2, _, w2⟩ := DataW.trod_int Tryz.underlying3 h2
  obtain ⟨c, e3, _, w3⟩ := DataW.trod_int Tryz.underlying3 h3
  simp at e2 e3
  subst e2 e3
  exact ⟨c0, c1, r, c, z0, z1, rfl, i0, i1, b0, b1, by simpa [Lit.wf, IntKind.min, IntKind.max, IntKind.bits, IntKind.signed] using w2, by simpa [Lit.wf, IntKind.min, IntKind.max, IntKind.bits, IntKind.signed] using w3⟩
end Go.Proofs.YtajooiainglpmaaGreat
namespace Go.Proofs.YtajooiainglpmaaGreat
open Go.RowKit Go.ChangeShapes Go.WideShapes Go.ChangeAt

theorem cellsU16 : Tryz.prog.cellsOf 23 = 1 := by kernel_rfl
set_option maxRecDepth 100000 in
theorem open_u16s {H : Type} {enc : TypeId × Value → H} {w : World} {sp : Nat → Bool} {held : Bool} {base : Nat} {v : Value} {d : DataW H} {ps : List MemPlace}
    (hval : Value.okWide Tryz.prog w .any base 52 v) (h0 : DataW.Trod enc Tryz.prog w 0 sp held 52 v d ps) : ∃ zs : List Int, SlAt w 1 v zs.length (zs.map (Value.int .u16)) ∧ ∀ z ∈ zs, 0 ≤ z ∧ z ≤ 65535 := by
  obtain ⟨a0, l0, c0, rfl⟩ := okWide_slice Tryz.underlying52 hval
  obtain ⟨fuel, h⟩ := Joins.field_of_Trod h0 rfl
  obtain ⟨n, xs, hS, hE⟩ := open_sl (k := 1) Tryz.underlying52 cellsU16 h
  have hx : ∀ i, i < n → ∃ z : Int, xs[i]? = some (.int .u16 z) ∧ (Lit.int .u16 z).wf = true := fun i hi => by
    obtain ⟨m, y, hy⟩ := hE i hi
    obtain ⟨z, hz, _, hwf⟩ := DataW.trod_int Tryz.underlying23 hy
    refine ⟨z, ?_, hwf⟩
    have := congrArg (·[0]?) hz
    simpa [List.getElem?_take, List.getElem?_drop] using this
  obtain ⟨f, hf⟩ := Deep.choose_lt hx
  have hl := hS.len
  have e : xs = ((List.range n).map f).map (Value.int .u16) := by
    apply List.ext_getElem?
    intro i
    by_cases hi : i < n
    · rw [(hf i hi).1]; simp [hi]
    · rw [List.getElem?_eq_none (by omega), List.getElem?_eq_none (by simp; omega)]
  refine ⟨(List.range n).map f, ?_, fun z hz => ?_⟩
  · rw [← e]
    simpa using hS
  · obtain ⟨i, hi, rfl⟩ := List.mem_map.1 hz
    have := (hf i (by simpa using hi)).2
    simpa [Lit.wf, IntKind.min, IntKind.max, IntKind.bits, IntKind.signed] using this
end Go.Proofs.YtajooiainglpmaaGreat
