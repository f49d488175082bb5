/-
  PLAIN LAWS of a set's places and of the part of a set whose multiples are at most a limit. No program.
-/
import Derived.Test.YtmmogifmogdegaaLinP
namespace Go.Proofs.Ytmmogifmogdegaa

def atMostL (d : List Rg) (c lim : Int) : List Rg := canon fun x => memL d x && decide (c * x ≤ lim)
/-- the set's integer at a place, as a number -/
def vAt (d : List Rg) (i : Nat) : Int := (placeS (memL d) i).getD 0
theorem vAt_in (d : List Rg) (i : Nat) (h : (i : Int) < sizeL (norm d)) : placeS (memL d) i = some (vAt d i) ∧ -200 ≤ vAt d i ∧ vAt d i ≤ 200 ∧ memL d (vAt d i) = true := by
  obtain ⟨v, hv, a, b, c⟩ := placeS_in (memL d) i (by omega) h
  have e : vAt d i = v := by unfold vAt; rw [hv]; rfl
  rw [e]; exact ⟨hv, a, b, c⟩
theorem vAt_next (d : List Rg) (i : Nat) (h : ((i + 1 : Nat) : Int) < sizeL (norm d)) : vAt d i < vAt d (i + 1) := by
  have h1 := (vAt_in d i (by omega)).1
  have h2 := (vAt_in d (i + 1) h).1
  exact (placeS_next (memL d) i _ _ (by omega) h1 (by push_cast at h2; exact h2)).1
theorem vAt_lt (d : List Rg) : ∀ (m i : Nat), ((i + m + 1 : Nat) : Int) < sizeL (norm d) → vAt d i < vAt d (i + m + 1)
  | 0, i, h => vAt_next d i h
  | m + 1, i, h => by
    have h1 := vAt_lt d m i (by omega)
    have h2 := vAt_next d (i + m + 1) h
    have e : i + (m + 1) + 1 = i + m + 1 + 1 := by omega
    rw [e]; omega
theorem vAt_rises (d : List Rg) (i j : Nat) (h1 : i < j) (h2 : (j : Int) < sizeL (norm d)) : vAt d i < vAt d j := by
  obtain ⟨m, rfl⟩ : ∃ m, j = i + m + 1 := ⟨j - i - 1, by omega⟩
  exact vAt_lt d m i h2
theorem vAt_le_iff (d : List Rg) (i j : Nat) (hi : (i : Int) < sizeL (norm d)) (hj : (j : Int) < sizeL (norm d)) : vAt d i ≤ vAt d j ↔ i ≤ j := by
  constructor
  · intro h
    rcases (show i ≤ j ∨ j < i by omega) with h1 | h1
    · exact h1
    · have := vAt_rises d j i h1 hi; omega
  · intro h
    rcases (show i = j ∨ i < j by omega) with rfl | h1
    · exact Int.le_refl _
    · have := vAt_rises d i j h1 hj; omega
theorem vAt_surj (d : List Rg) (x : Int) (h1 : -200 ≤ x) (h2 : x ≤ 200) (h : memL d x = true) : ∃ i : Nat, (i : Int) < sizeL (norm d) ∧ vAt d i = x := by
  have hs : sizeL (norm d) = cnt (memL d) 401 (-200) := sizeL_canon _
  have hlt : cnt (memL d) (x - -200).toNat (-200) + 1 ≤ cnt (memL d) 401 (-200) := by
    have := cnt_step (memL d) (-200) x 201 h1 (by omega) h
    rwa [show (201 - -200 : Int).toNat = 401 by decide] at this
  have h0 := (cnt_nonneg (memL d) (x - -200).toNat (-200)).1
  obtain ⟨i, hi⟩ : ∃ i : Nat, (i : Int) = cnt (memL d) (x - -200).toNat (-200) := ⟨(cnt (memL d) (x - -200).toNat (-200)).toNat, by omega⟩
  refine ⟨i, by omega, ?_⟩
  obtain ⟨hp, a, b, c⟩ := vAt_in d i (by omega)
  rw [placeS_eq _ _ (by omega)] at hp
  obtain ⟨_, _, _, hc⟩ := seek_some _ _ _ _ _ hp
  rw [hi] at hc
  rcases (show vAt d i = x ∨ vAt d i < x ∨ x < vAt d i by omega) with e | e | e
  · exact e
  · have := cnt_step (memL d) (-200) (vAt d i) x a e c; omega
  · have := cnt_step (memL d) (-200) x (vAt d i) h1 e h; omega
/-- a set that has none of what is asked -/
theorem atMost_none (d : List Rg) (c lim : Int) (h : ∀ i : Nat, (i : Int) < sizeL (norm d) → lim < c * vAt d i) : atMostL d c lim = [] := by
  refine (is_canon (show Normal [] from trivial) (fun x h1 h2 => ?_)).symm
  rw [memL_nil]
  cases hx : memL d x with
  | false => rfl
  | true =>
    obtain ⟨i, hi, rfl⟩ := vAt_surj d x h1 h2 hx
    have := h i hi
    simp; omega
theorem atMost_low (d : List Rg) (c lim : Int) (k : Nat) (hk : (k : Int) < sizeL (norm d)) (h1 : ∀ i : Nat, i ≤ k → c * vAt d i ≤ lim) (h2 : ∀ i : Nat, k < i → (i : Int) < sizeL (norm d) → lim < c * vAt d i) :
    meetL d [(-200, vAt d k)] = atMostL d c lim := by
  unfold meetL atMostL
  refine canon_congr fun x hx1 hx2 => ?_
  cases hx : memL d x with
  | false => rfl
  | true =>
    obtain ⟨i, hi, rfl⟩ := vAt_surj d x hx1 hx2 hx
    rw [memL_cons, memL_nil, Bool.or_false, Bool.true_and, Bool.true_and]
    have hle := vAt_le_iff d i k hi hk
    rcases (show i ≤ k ∨ k < i by omega) with h | h
    · have a := h1 i h
      have b := hle.2 h
      simp [a, b, hx1]
    · have a := h2 i h hi
      have b : ¬ vAt d i ≤ vAt d k := fun x => by have := hle.1 x; omega
      simp [hx1, b]; omega
theorem atMost_high (d : List Rg) (c lim : Int) (k : Nat) (hk : (k : Int) < sizeL (norm d)) (h1 : ∀ i : Nat, k ≤ i → (i : Int) < sizeL (norm d) → c * vAt d i ≤ lim) (h2 : ∀ i : Nat, i < k → lim < c * vAt d i) :
    meetL d [(vAt d k, 200)] = atMostL d c lim := by
  unfold meetL atMostL
  refine canon_congr fun x hx1 hx2 => ?_
  cases hx : memL d x with
  | false => rfl
  | true =>
    obtain ⟨i, hi, rfl⟩ := vAt_surj d x hx1 hx2 hx
    rw [memL_cons, memL_nil, Bool.or_false, Bool.true_and, Bool.true_and]
    have hle := vAt_le_iff d k i hk hi
    rcases (show k ≤ i ∨ i < k by omega) with h | h
    · have a := h1 i h hi
      have b := hle.2 h
      simp [a, b, hx2]
    · have a := h2 i h
      have b : ¬ vAt d k ≤ vAt d i := fun x => by have := hle.1 x; omega
      simp [hx2, b]; omega
theorem size_bnd (d : List Rg) : 0 ≤ sizeL (norm d) ∧ sizeL (norm d) ≤ 401 := by
  unfold norm; rw [sizeL_canon]; exact cnt_nonneg _ 401 (-200)
/-- what narrowed comes to, by its cases -/
theorem narrow_le (c k : Int) (d : List Rg) (lo hi : Int) : atMostL d k (c - lo) = narrowL 3 c k d lo hi := by
  unfold atMostL narrowL
  refine canon_congr fun x _ _ => ?_
  congr 1
  unfold staysP
  rw [if_pos rfl]
  exact decide_eq_decide.2 (by omega)
theorem narrow_eq (c k : Int) (d : List Rg) (lo hi : Int) : atMostL (atMostL d k (c - lo)) (-k) (hi - c) = narrowL 1 c k d lo hi := by
  unfold atMostL narrowL
  refine canon_congr fun x h1 h2 => ?_
  rw [canon_mem]
  unfold staysP
  rw [if_neg (by decide), if_neg (by decide), Int.neg_mul]
  generalize k * x = y
  simp only [h1, h2, decide_true, Bool.true_and, Bool.and_assoc]
  congr 1
  congr 1
  · exact decide_eq_decide.2 (by omega)
  · exact decide_eq_decide.2 (by omega)
theorem narrow_ne_all (c k : Int) (d : List Rg) (lo hi : Int) (h : lo ≠ hi ∨ ∀ x, k * x ≠ c - lo) : norm d = narrowL 2 c k d lo hi := by
  unfold norm narrowL
  refine canon_congr fun x _ _ => ?_
  have : staysP 2 c k lo hi x = true := by
    unfold staysP
    rw [if_neg (by decide), if_pos rfl]
    rcases h with h | h
    · simp [h]
    · have := h x
      simp; right; omega
  rw [this, Bool.and_true]
theorem narrow_ne_one (c k : Int) (d : List Rg) (lo v : Int) (hk : k ≠ 0) (hv : k * v = c - lo) : minusL d [(v, v)] = narrowL 2 c k d lo lo := by
  unfold minusL narrowL
  refine canon_congr fun x _ _ => ?_
  congr 1
  rw [memL_cons, memL_nil, Bool.or_false]
  unfold staysP
  rw [if_neg (by decide), if_pos rfl]
  by_cases h : x = v
  · subst h
    have : decide (c - k * x = lo) = true := by simp; omega
    simp [this]
  · have h2 : ¬ c - k * x = lo := fun e => h (Int.eq_of_mul_eq_mul_left hk (by omega))
    have h3 : (decide (v ≤ x) && decide (x ≤ v)) = false := by
      rw [Bool.and_eq_false_iff, decide_eq_false_iff_not, decide_eq_false_iff_not]; omega
    simp [h2, h3]
end Go.Proofs.Ytmmogifmogdegaa
