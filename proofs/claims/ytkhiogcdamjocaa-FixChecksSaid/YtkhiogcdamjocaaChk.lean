/-
  lin.Check and coneyref15.Check, walked: both tell the same number.
-/
import Derived.Test.YtkhiogcdamjocaaRows
import Derived.Test.YtkhiogcdamjocaaReg
namespace Go.Proofs.Ytkhiogcdamjocaa
open Go.RowKit

def IsAt (w : World) (v : Value) (zs : List Int) : Prop := SlAt w 1 v zs.length (zs.map (Value.int .i64))
theorem IsAt.below {w w' : World} {v : Value} {zs : List Int} (h : IsAt w v zs) (hb : Below w.heap.size w w') : IsAt w' v zs := SlAt.below h hb
/-- a list of integers that is not empty: where it lies -/
theorem IsAt.at {w : World} {v : Value} {zs : List Int} (h : IsAt w v zs) (hp : 0 < zs.length) :
    ∃ b off cap, v = .slice (some ⟨b, off, none⟩) zs.length cap ∧ zs.length ≤ cap ∧ b < w.heap.size ∧ ∀ j, (hj : j < zs.length) → w.cell? ⟨b, off + j, none⟩ = some (.int .i64 zs[j]) := by
  obtain ⟨b, off, cap, rfl, h1, _, h2, h3⟩ := SlAt.pos h (by omega)
  exact ⟨b, off, cap, rfl, h1, h2, fun j hj => by rw [h3 j (by omega)]; simp [hj]⟩

def oddB (c : Int) : Bool := c == 0 || decide (c < -100000) || decide (100000 < c)

set_option maxHeartbeats 400000 in
theorem odd_any (c : Int) (w : World) : Calls Try.prog 54 #[.int .i64 c] w fun e w' => e = .returned (.bool (oddB c)) ∧ w = w' := by
  by_cases h0 : c = 0
  · subst h0
    go_enter Try.func54, Try.ntmps54
    go_wp2
    go_ret
    exact ⟨rfl, rfl⟩
  · have h1 : (c == 0) = false := by simp [h0]
    have hS : Hid (oddB c = (decide (c < -100000) || decide (100000 < c))) := by show _ = _; simp [oddB, h1]
    by_cases h2 : c < -100000
    · go_enter Try.func54, Try.ntmps54
      go_wp2
      go_ret
      exact ⟨ret_bool (by rw [hS.out]; simp [h2]), rfl⟩
    · go_enter Try.func54, Try.ntmps54
      go_wp2
      go_ret
      exact ⟨ret_bool (by rw [hS.out]; simp [h1, h2]; omega), rfl⟩

/-- the first place of a list at which something is so; -1: none -/
def findI (p : Int → Bool) (zs : List Int) : Int := match zs.findIdx? p with | some i => (i : Int) | none => -1
theorem findI_nonneg (p : Int → Bool) (zs : List Int) : decide (0 ≤ findI p zs) = zs.any p := by
  unfold findI
  cases h : zs.findIdx? p with
  | none => rw [List.findIdx?_eq_none_iff] at h; simp; exact fun x hx => by simpa using h x hx
  | some i =>
    have : zs.any p = true := by
      obtain ⟨h1, h2, _⟩ := List.findIdx?_eq_some_iff_getElem.1 h
      rw [List.any_eq_true]; exact ⟨zs[i], List.getElem_mem h1, h2⟩
    rw [this]; simp
theorem findIdx_hit (p : Int → Bool) (zs : List Int) (k : Nat) (hk : k < zs.length) (h : (zs.take k).any p = false) (hp : p zs[k] = true) : findI p zs = (k : Int) := by
  unfold findI
  have : zs.findIdx? p = some k := by
    rw [List.findIdx?_eq_some_iff_getElem]
    refine ⟨hk, hp, fun j hj hc => ?_⟩
    have : (zs.take k).any p = true := by
      rw [List.any_eq_true]
      exact ⟨zs[j], by rw [List.mem_take_iff_getElem]; exact ⟨j, by omega, rfl⟩, hc⟩
    rw [h] at this; cases this
  rw [this]
theorem findIdx_none (p : Int → Bool) (zs : List Int) (h : zs.any p = false) : findI p zs = -1 := by
  unfold findI
  have : zs.findIdx? p = none := by
    rw [List.findIdx?_eq_none_iff]
    intro x hx
    rw [List.any_eq_false] at h
    simpa using h x hx
  rw [this]
theorem any_take_step (p : Int → Bool) (zs : List Int) (k : Nat) (hk : k < zs.length) (h : (zs.take k).any p = false) (hp : p zs[k] = false) : (zs.take (k + 1)).any p = false := by
  rw [List.take_succ_eq_append_getElem hk, List.any_append, h]; simp [hp]

set_option maxHeartbeats 400000 in
theorem indexOdd_any (v : Value) (zs : List Int) (w : World) (h : IsAt w v zs) (hl : zs.length ≤ 4096) :
    Calls Try.prog 55 #[v, .func (.func 54) #[] #[]] w fun e w' => e = .returned (.int .i64 (findI oddB zs)) ∧ w = w' := by
  obtain ⟨ao, cap, rfl, _⟩ := h.shape
  have H := Lib.hid h
  clear h
  go_enter Try.func55, Try.ntmps55
  go_wp2
  go_loop [8] (fun i => ∃ k : Nat, k ≤ zs.length ∧ i = .int .i64 k ∧ (zs.take k).any oddB = false) (fun i => zs.length - (intOf i).toNat)
  case atStart => exact ⟨0, by omega, rfl, by simp⟩
  case round =>
    obtain ⟨k, hk, rfl, hnot⟩ := hrel
    have HN := Lib.hid hnot
    clear hnot
    by_cases hlt : k < zs.length
    · obtain ⟨b, off, cap', he, _, _, hc⟩ := IsAt.at H.out (by omega)
      simp only [Value.slice.injEq, true_and] at he
      obtain ⟨rfl, rfl⟩ := he
      have hcell := hc k hlt
      clear hc
      obtain ⟨z, hz⟩ : ∃ z, z = zs[k] := ⟨_, rfl⟩
      rw [← hz] at hcell
      cases ho : oddB z with
      | true =>
        have HF := Lib.hid (findIdx_hit oddB zs k hlt HN.out (by rw [← hz]; exact ho))
        have CO : Hid (∀ w, Calls Try.prog 54 #[.int .i64 z] w fun e w' => e = .returned (.bool true) ∧ w = w') := fun w => by rw [← ho]; exact odd_any z w
        clear hz ho
        go_wp2_with (first | (go_at_call 54; ((with_reducible refine (CO.out _).mono ?_); rintro e w' ⟨rfl, rfl⟩)))
        go_ret
        exact ⟨ret_int HF.out.symm, rfl⟩
      | false =>
        have HF := Lib.hid (any_take_step oddB zs k hlt HN.out (by rw [← hz]; exact ho))
        have CO : Hid (∀ w, Calls Try.prog 54 #[.int .i64 z] w fun e w' => e = .returned (.bool false) ∧ w = w') := fun w => by rw [← ho]; exact odd_any z w
        clear hz ho
        go_wp2_with (first | (go_at_call 54; ((with_reducible refine (CO.out _).mono ?_); rintro e w' ⟨rfl, rfl⟩)))
        go_round
        case rel => exact ⟨k + 1, by omega, by go_num, HF.out⟩
        case measure => simp [intOf]; omega
    · have HF : Hid (findI oddB zs = -1) := findIdx_none oddB zs (by have := HN.out; rwa [List.take_of_length_le (by omega)] at this)
      go_wp2
      go_ret
      exact ⟨ret_int HF.out.symm, rfl⟩

set_option maxHeartbeats 400000 in
theorem containsOdd_any (v : Value) (zs : List Int) (w : World) (h : IsAt w v zs) (hl : zs.length ≤ 4096) :
    Calls Try.prog 30 #[v, .func (.func 54) #[] #[]] w fun e w' => e = .returned (.bool (zs.any oddB)) ∧ w = w' := by
  have H := Lib.hid h
  clear h
  go_enter Try.func30, Try.ntmps30
  go_wp2_with (first | (go_at_call 55; ((with_reducible refine (indexOdd_any _ _ _ H.out hl).mono ?_); rintro e w' ⟨rfl, rfl⟩)))
  go_ret
  exact ⟨ret_bool (findI_nonneg _ _), rfl⟩

set_option maxHeartbeats 400000 in
theorem index_any (v : Value) (zs : List Int) (x : Int) (w : World) (h : IsAt w v zs) (hl : zs.length ≤ 4096) :
    Calls Try.prog 57 #[v, .int .i64 x] w fun e w' => e = .returned (.int .i64 (findI (x == ·) zs)) ∧ w = w' := by
  obtain ⟨ao, cap, rfl, _⟩ := h.shape
  have H := Lib.hid h
  clear h
  go_enter Try.func57, Try.ntmps57
  go_wp2
  go_loop [8] (fun i => ∃ k : Nat, k ≤ zs.length ∧ i = .int .i64 k ∧ (zs.take k).any (x == ·) = false) (fun i => zs.length - (intOf i).toNat)
  case atStart => exact ⟨0, by omega, rfl, by simp⟩
  case round =>
    obtain ⟨k, hk, rfl, hnot⟩ := hrel
    have HN := Lib.hid hnot
    clear hnot
    by_cases hlt : k < zs.length
    · obtain ⟨b, off, cap', he, _, _, hc⟩ := IsAt.at H.out (by omega)
      simp only [Value.slice.injEq, true_and] at he
      obtain ⟨rfl, rfl⟩ := he
      have hcell := hc k hlt
      clear hc
      obtain ⟨z, hz⟩ : ∃ z, z = zs[k] := ⟨_, rfl⟩
      rw [← hz] at hcell
      cases ho : (x == z) with
      | true =>
        have HF := Lib.hid (findIdx_hit (x == ·) zs k hlt HN.out (by rw [← hz]; exact ho))
        clear hz
        go_wp2
        go_ret
        exact ⟨ret_int HF.out.symm, rfl⟩
      | false =>
        have HF := Lib.hid (any_take_step (x == ·) zs k hlt HN.out (by rw [← hz]; exact ho))
        clear hz
        go_wp2
        go_round
        case rel => exact ⟨k + 1, by omega, by go_num, HF.out⟩
        case measure => simp [intOf]; omega
    · have HF : Hid (findI (x == ·) zs = -1) := findIdx_none (x == ·) zs (by have := HN.out; rwa [List.take_of_length_le (by omega)] at this)
      go_wp2
      go_ret
      exact ⟨ret_int HF.out.symm, rfl⟩

set_option maxHeartbeats 400000 in
theorem contains_any (v : Value) (zs : List Int) (x : Int) (w : World) (h : IsAt w v zs) (hl : zs.length ≤ 4096) :
    Calls Try.prog 34 #[v, .int .i64 x] w fun e w' => e = .returned (.bool (zs.any (x == ·))) ∧ w = w' := by
  have H := Lib.hid h
  clear h
  go_enter Try.func34, Try.ntmps34
  go_wp2_with (first | (go_at_call 57; ((with_reducible refine (index_any _ _ _ _ H.out hl).mono ?_); rintro e w' ⟨rfl, rfl⟩)))
  go_ret
  exact ⟨ret_bool (findI_nonneg _ _), rfl⟩

/-! ### Check -/
def shapeB (coef vars : List Int) (rel c : Int) : Bool := coef.length != vars.length || decide (16 < coef.length) || decide (rel < 1) || decide (3 < rel) || decide (c < -1099511627776) || decide (1099511627776 < c) || coef.any oddB
/-- is the variable at a place one that may not be? -/
def badV (vars : List Int) (n : Int) (k : Nat) : Bool := decide (vars.getD k 0 < 0) || decide (n ≤ vars.getD k 0) || (vars.take k).any (vars.getD k 0 == ·)
def linChk (coef vars : List Int) (rel c n : Int) : Int := if shapeB coef vars rel c = true then 150 else if (List.range vars.length).any (badV vars n) = true then 160 else 0

theorem range_any_step (p : Nat → Bool) (k : Nat) (h : (List.range k).any p = false) (hp : p k = false) : (List.range (k + 1)).any p = false := by
  rw [List.range_succ, List.any_append, h]; simp [hp]
theorem range_any_hit (p : Nat → Bool) (k n : Nat) (hk : k < n) (hp : p k = true) : (List.range n).any p = true := by
  rw [List.any_eq_true]; exact ⟨k, by simpa using hk, hp⟩

set_option maxHeartbeats 1600000 in
theorem linCheck_any (v0 v1 : Value) (rel c n : Int) (coef vars : List Int) (w : World) (h0 : IsAt w v0 coef) (h1 : IsAt w v1 vars) (hl0 : coef.length ≤ 4096) (hl1 : vars.length ≤ 4096) :
    Calls Try.prog 29 #[.agg #[v0, v1, .int .i64 rel, .int .i64 c], .int .i64 n] w fun e w' => e = .returned (.int .i64 (linChk coef vars rel c n)) ∧ Below w.heap.size w w' := by
  obtain ⟨a0, c0, rfl, _⟩ := h0.shape
  obtain ⟨a1, c1, rfl, _⟩ := h1.shape
  have hB : Below w.heap.size w (w.alloc (.cells #[.slice a0 coef.length c0, .slice a1 vars.length c1, .int .i64 rel, .int .i64 c] 24)) := (Below.refl _ _).alloc (Nat.le_refl _) _
  have H0 := Lib.hid (h0.below hB)
  have H1 := Lib.hid (h1.below hB)
  clear h0 h1
  have CO : Hid (Calls Try.prog 30 #[.slice a0 coef.length c0, .func (.func 54) #[] #[]] (w.alloc (.cells #[.slice a0 coef.length c0, .slice a1 vars.length c1, .int .i64 rel, .int .i64 c] 24)) fun e w' => e = .returned (.bool (coef.any oddB)) ∧ (w.alloc (.cells #[.slice a0 coef.length c0, .slice a1 vars.length c1, .int .i64 rel, .int .i64 c] 24)) = w') := containsOdd_any _ _ _ H0.out hl0
  by_cases e1 : coef.length ≠ vars.length
  · have e1' : ((coef.length : Int) != (vars.length : Int)) = true := by simp; omega
    have hS : Hid (linChk coef vars rel c n = 150) := by show _ = _; simp [linChk, shapeB, e1]
    go_enter Try.func29, Try.ntmps29
    go_wp2_with (first | (go_at_call 30; ((with_reducible refine (CO.out).mono ?_); rintro e w' ⟨rfl, rfl⟩)))
    go_ret
    exact ⟨ret_int hS.out.symm, hB⟩
  have e1' : ((coef.length : Int) != (vars.length : Int)) = false := by simp; omega
  have e1'' : (coef.length != vars.length) = false := by simp; omega
  have E1 := Lib.hid e1''
  clear e1 e1''
  by_cases e2 : 16 < coef.length
  · have hS : Hid (linChk coef vars rel c n = 150) := by show _ = _; simp [linChk, shapeB, e2]
    go_enter Try.func29, Try.ntmps29
    go_wp2_with (first | (go_at_call 30; ((with_reducible refine (CO.out).mono ?_); rintro e w' ⟨rfl, rfl⟩)))
    go_ret
    exact ⟨ret_int hS.out.symm, hB⟩
  by_cases e3 : rel < 1
  · have hS : Hid (linChk coef vars rel c n = 150) := by show _ = _; simp [linChk, shapeB, e3]
    go_enter Try.func29, Try.ntmps29
    go_wp2_with (first | (go_at_call 30; ((with_reducible refine (CO.out).mono ?_); rintro e w' ⟨rfl, rfl⟩)))
    go_ret
    exact ⟨ret_int hS.out.symm, hB⟩
  by_cases e4 : 3 < rel
  · have hS : Hid (linChk coef vars rel c n = 150) := by show _ = _; simp [linChk, shapeB, e4]
    go_enter Try.func29, Try.ntmps29
    go_wp2_with (first | (go_at_call 30; ((with_reducible refine (CO.out).mono ?_); rintro e w' ⟨rfl, rfl⟩)))
    go_ret
    exact ⟨ret_int hS.out.symm, hB⟩
  by_cases e5 : c < -1099511627776
  · have hS : Hid (linChk coef vars rel c n = 150) := by show _ = _; simp [linChk, shapeB, e5]
    go_enter Try.func29, Try.ntmps29
    go_wp2_with (first | (go_at_call 30; ((with_reducible refine (CO.out).mono ?_); rintro e w' ⟨rfl, rfl⟩)))
    go_ret
    exact ⟨ret_int hS.out.symm, hB⟩
  by_cases e6 : 1099511627776 < c
  · have hS : Hid (linChk coef vars rel c n = 150) := by show _ = _; simp [linChk, shapeB, e6]
    go_enter Try.func29, Try.ntmps29
    go_wp2_with (first | (go_at_call 30; ((with_reducible refine (CO.out).mono ?_); rintro e w' ⟨rfl, rfl⟩)))
    go_ret
    exact ⟨ret_int hS.out.symm, hB⟩
  cases e7 : coef.any oddB with
  | true =>
    rw [e7] at CO
    have hS : Hid (linChk coef vars rel c n = 150) := by show _ = _; simp [linChk, shapeB, e7]
    clear e7
    go_enter Try.func29, Try.ntmps29
    go_wp2_with (first | (go_at_call 30; ((with_reducible refine (CO.out).mono ?_); rintro e w' ⟨rfl, rfl⟩)))
    go_ret
    exact ⟨ret_int hS.out.symm, hB⟩
  | false =>
    rw [e7] at CO
    have hS : Hid (linChk coef vars rel c n = if (List.range vars.length).any (badV vars n) = true then 160 else 0) := by
      show _ = _
      have := E1.out
      simp [linChk, shapeB, this, e2, e3, e4, e5, e6, e7]
    clear e7
    go_enter Try.func29, Try.ntmps29
    go_wp2_with (first | (go_at_call 30; ((with_reducible refine (CO.out).mono ?_); rintro e w' ⟨rfl, rfl⟩)))
    go_loop [50] (fun i => ∃ k : Nat, k ≤ vars.length ∧ i = .int .i64 k ∧ (List.range k).any (badV vars n) = false) (fun i => vars.length - (intOf i).toNat)
    case atStart => exact ⟨0, by omega, rfl, rfl⟩
    case round =>
      obtain ⟨k, hk, rfl, hnot⟩ := hrel
      have HN := Lib.hid hnot
      clear hnot
      by_cases hlt : k < vars.length
      · obtain ⟨b, off, cap', he, hcap, _, hc⟩ := IsAt.at H1.out (by omega)
        simp only [Value.slice.injEq, true_and] at he
        obtain ⟨rfl, rfl⟩ := he
        have hcell := hc k hlt
        clear hc
        obtain ⟨z, hz⟩ : ∃ z, z = vars[k] := ⟨_, rfl⟩
        have HZ : Hid (vars.getD k 0 = z) := by show _ = _; rw [hz]; simp [hlt]
        rw [← hz] at hcell
        clear hz
        have HT : Hid (IsAt (w.alloc (.cells #[.slice a0 coef.length c0, .slice (some ⟨b, off, none⟩) vars.length c1, .int .i64 rel, .int .i64 c] 24)) (.slice (some ⟨b, off, none⟩) k c1) (vars.take k)) := by
          have := SlAt.take H1.out k c1 (by omega) (by omega) (Nat.le_refl _)
          unfold IsAt Hid
          rw [List.length_take, Nat.min_eq_left (by omega), List.map_take]
          simpa using this
        by_cases z1 : z < 0
        · have hF : Hid ((List.range vars.length).any (badV vars n) = true) := range_any_hit _ k _ hlt (by rw [badV, HZ.out]; simp [z1])
          go_wp2
          go_ret
          exact ⟨ret_int (by rw [hS.out, hF.out]; rfl), hB⟩
        · by_cases z2 : n ≤ z
          · have hF : Hid ((List.range vars.length).any (badV vars n) = true) := range_any_hit _ k _ hlt (by rw [badV, HZ.out]; simp [z2])
            go_wp2
            go_ret
            exact ⟨ret_int (by rw [hS.out, hF.out]; rfl), hB⟩
          · cases z3 : (vars.take k).any (z == ·) with
            | true =>
              have hF : Hid ((List.range vars.length).any (badV vars n) = true) := range_any_hit _ k _ hlt (by rw [badV, HZ.out, z3]; simp)
              have CC : Hid (∀ w' v, IsAt w' v (vars.take k) → Calls Try.prog 34 #[v, .int .i64 z] w' fun e w'' => e = .returned (.bool true) ∧ w' = w'') := fun w' v h => by
                rw [← z3]; exact contains_any _ _ _ _ h (by rw [List.length_take]; omega)
              clear z3
              go_wp2_with (first | (go_at_call 34; ((with_reducible refine (CC.out _ _ HT.out).mono ?_); rintro e w' ⟨rfl, rfl⟩)))
              go_ret
              exact ⟨ret_int (by rw [hS.out, hF.out]; rfl), hB⟩
            | false =>
              have hF : Hid ((List.range (k + 1)).any (badV vars n) = false) := range_any_step _ k HN.out (by rw [badV, HZ.out, z3]; simp; omega)
              have CC : Hid (∀ w' v, IsAt w' v (vars.take k) → Calls Try.prog 34 #[v, .int .i64 z] w' fun e w'' => e = .returned (.bool false) ∧ w' = w'') := fun w' v h => by
                rw [← z3]; exact contains_any _ _ _ _ h (by rw [List.length_take]; omega)
              clear z3
              go_wp2_with (first | (go_at_call 34; ((with_reducible refine (CC.out _ _ HT.out).mono ?_); rintro e w' ⟨rfl, rfl⟩)))
              go_round
              case rel => exact ⟨k + 1, by omega, by go_num, hF.out⟩
              case measure => simp [intOf]; omega
      · have hF : Hid ((List.range vars.length).any (badV vars n) = false) := by have := HN.out; rwa [show k = vars.length by omega] at this
        go_wp2
        go_ret
        exact ⟨ret_int (by rw [hS.out, hF.out]; rfl), hB⟩
end Go.Proofs.Ytkhiogcdamjocaa
