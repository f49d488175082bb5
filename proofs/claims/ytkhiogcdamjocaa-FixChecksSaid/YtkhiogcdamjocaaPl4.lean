/-
  PLAIN LAWS of shifting and scaling. No program.
-/
import Derived.Test.YtkhiogcdamjocaaPl3
namespace Go.Proofs.Ytkhiogcdamjocaa

def shL (by' : Int) (l : List Rg) : List Rg := l.map fun r => (r.1 + by', r.2 + by')
def scL (by' : Int) (l : List Rg) : List Rg := l.map fun r => (min (r.1 * by') (r.2 * by'), max (r.1 * by') (r.2 * by'))
def shiftL (a : List Rg) (by' : Int) : List Rg := norm (shL by' (norm a))
def scaleL (a : List Rg) (by' : Int) : List Rg := norm (scL by' (norm a))
def clampI (n lo hi : Int) : Int := max lo (min n hi)
theorem memL_shL (l : List Rg) (b n : Int) : memL (shL b l) n = memL l (n - b) := by
  unfold shL memL
  rw [List.any_map]
  congr 1; funext r
  rw [Bool.eq_iff_iff]; simp; omega
theorem memL_map_congr (l : List Rg) (f g : Rg → Rg) (n : Int) (h : ∀ r ∈ l, (decide ((f r).1 ≤ n) && decide (n ≤ (f r).2)) = (decide ((g r).1 ≤ n) && decide (n ≤ (g r).2))) : memL (l.map f) n = memL (l.map g) n := by
  unfold memL
  rw [List.any_map, List.any_map, Bool.eq_iff_iff, List.any_eq_true, List.any_eq_true]
  constructor
  · rintro ⟨r, hr, h1⟩; exact ⟨r, hr, (h r hr).symm.trans h1⟩
  · rintro ⟨r, hr, h1⟩; exact ⟨r, hr, (h r hr).trans h1⟩
/-- a shift beyond all is a shift beyond the ends -/
theorem shift_clamp (a : List Rg) (b lo hi : Int) (hlo : lo ≤ -401) (hhi : 401 ≤ hi) : norm (shL (clampI b lo hi) (norm a)) = shiftL a b := by
  unfold shiftL norm
  refine canon_congr fun n h1 h2 => ?_
  rw [memL_shL, memL_shL]
  by_cases hc : clampI b lo hi = b
  · rw [hc]
  · have h3 := canon_mem (memL a) (n - clampI b lo hi)
    have h4 := canon_mem (memL a) (n - b)
    rw [h3, h4]
    have e1 : (decide (-200 ≤ n - clampI b lo hi) && decide (n - clampI b lo hi ≤ 200)) = false := by
      unfold clampI at hc ⊢; simp; omega
    have e2 : (decide (-200 ≤ n - b) && decide (n - b ≤ 200)) = false := by
      unfold clampI at hc; simp; omega
    rw [e1, e2]; simp
theorem mul_le_far (x b c n : Int) (h1 : -200 ≤ n) (h2 : n ≤ 200) (hb : 201 ≤ b) (hc : 201 ≤ c) : (x * b ≤ n ↔ x * c ≤ n) ∧ (n ≤ x * b ↔ n ≤ x * c) := by
  rcases (show x ≤ -1 ∨ x = 0 ∨ 1 ≤ x by omega) with h | rfl | h
  · have e1 : x * b ≤ -201 := by
      have := Int.mul_le_mul_of_nonneg_right h (show 0 ≤ b by omega); omega
    have e2 : x * c ≤ -201 := by
      have := Int.mul_le_mul_of_nonneg_right h (show 0 ≤ c by omega); omega
    omega
  · simp
  · have e1 : 201 ≤ x * b := by
      have := Int.mul_le_mul_of_nonneg_right h (show 0 ≤ b by omega); omega
    have e2 : 201 ≤ x * c := by
      have := Int.mul_le_mul_of_nonneg_right h (show 0 ≤ c by omega); omega
    omega
theorem hull_far (x y b c n : Int) (h1 : -200 ≤ n) (h2 : n ≤ 200) (hbc : (201 ≤ b ∧ 201 ≤ c) ∨ (b ≤ -201 ∧ c ≤ -201)) :
    (decide (min (x * b) (y * b) ≤ n) && decide (n ≤ max (x * b) (y * b))) = (decide (min (x * c) (y * c) ≤ n) && decide (n ≤ max (x * c) (y * c))) := by
  rw [Bool.eq_iff_iff]
  simp only [Bool.and_eq_true, decide_eq_true_eq]
  rcases hbc with ⟨hb, hc⟩ | ⟨hb, hc⟩
  · obtain ⟨a1, a2⟩ := mul_le_far x b c n h1 h2 hb hc
    obtain ⟨a3, a4⟩ := mul_le_far y b c n h1 h2 hb hc
    omega
  · obtain ⟨a1, a2⟩ := mul_le_far x (-b) (-c) (-n) (by omega) (by omega) (by omega) (by omega)
    obtain ⟨a3, a4⟩ := mul_le_far y (-b) (-c) (-n) (by omega) (by omega) (by omega) (by omega)
    rw [Int.mul_neg, Int.mul_neg] at a1 a2 a3 a4
    omega
theorem scale_clamp (a : List Rg) (b lo hi : Int) (hlo : lo ≤ -201) (hhi : 201 ≤ hi) : norm (scL (clampI b lo hi) (norm a)) = scaleL a b := by
  unfold scaleL
  by_cases hc : clampI b lo hi = b
  · rw [hc]
  · unfold norm
    refine canon_congr fun n h1 h2 => ?_
    unfold scL
    refine memL_map_congr _ _ _ n fun r _ => ?_
    refine hull_far _ _ _ _ n h1 h2 ?_
    unfold clampI at hc ⊢
    omega

/-- there and back -/
theorem shift_back (a : List Rg) (n : Int) : shiftL (shiftL a n) (-n) = meetL a (shiftL [(-200, 200)] (-n)) := by
  unfold shiftL meetL
  rw [norm_norm]
  show canon _ = canon _
  refine canon_congr fun m h1 h2 => ?_
  rw [memL_shL, memL_norm, memL_shL, memL_norm, memL_norm, memL_shL, memL_norm]
  have e : memL [((-200 : Int), (200 : Int))] (m - -n) = inD (m - -n) := by simp [memL_cons, memL_nil, inD]
  rw [e, show m - -n - n = m by omega]
  simp [inD, h1, h2, Bool.and_comm]
theorem scale_one (a : List Rg) : scaleL a 1 = norm a := by
  unfold scaleL
  have : scL 1 (norm a) = norm a := by
    unfold scL
    conv => rhs; rw [← List.map_id (norm a)]
    refine List.map_congr_left fun r hr => ?_
    have := norm_bounds a r hr
    simp only [Int.mul_one, id]
    exact Prod.ext (by dsimp only; omega) (by dsimp only; omega)
  rw [this, norm_norm]
theorem memL_neg (l : List Rg) (h : ∀ r ∈ l, r.1 ≤ r.2) (n : Int) : memL (scL (-1) l) n = memL l (-n) := by
  unfold scL memL
  rw [List.any_map, Bool.eq_iff_iff, List.any_eq_true, List.any_eq_true]
  constructor
  · rintro ⟨r, hr, h1⟩
    have := h r hr
    exact ⟨r, hr, by simp at h1 ⊢; omega⟩
  · rintro ⟨r, hr, h1⟩
    have := h r hr
    exact ⟨r, hr, by simp at h1 ⊢; omega⟩
theorem scale_neg (a : List Rg) : scaleL (scaleL a (-1)) (-1) = norm a := by
  unfold scaleL
  rw [norm_norm]
  show canon _ = canon _
  refine canon_congr fun m h1 h2 => ?_
  rw [memL_neg _ (fun r hr => (norm_bounds _ r hr).2.1), memL_norm, memL_neg _ (fun r hr => (norm_bounds _ r hr).2.1), memL_norm]
  simp [inD, h1, h2]
  intro _
  omega
end Go.Proofs.Ytkhiogcdamjocaa
