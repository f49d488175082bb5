/-
  PLAIN LAWS of places: which integer of a set is at a place; how many. No program.
-/
import Derived.Test.YtkhiogcdamjocaaPl4
namespace Go.Proofs.Ytkhiogcdamjocaa

theorem cnt_add (S : Int → Bool) : ∀ (a b : Nat) (n : Int), cnt S (a + b) n = cnt S a n + cnt S b (n + a)
  | 0, b, n => by simp [cnt]
  | a + 1, b, n => by
    rw [show a + 1 + b = (a + b) + 1 by omega]
    simp only [cnt]
    rw [cnt_add S a b (n + 1), show n + 1 + (a : Int) = n + ((a + 1 : Nat) : Int) by push_cast; omega]
    omega
theorem seek_some (S : Int → Bool) : ∀ (k : Nat) (n i v : Int), seek S k n i = some v → n ≤ v ∧ v < n + k ∧ S v = true ∧ cnt S (v - n).toNat n = i
  | 0, n, i, v, h => by cases h
  | k + 1, n, i, v, h => by
    unfold seek at h
    by_cases hS : S n = true
    · rw [if_pos hS] at h
      by_cases h0 : i = 0
      · rw [if_pos h0] at h
        cases h
        refine ⟨Int.le_refl _, by push_cast; omega, hS, ?_⟩
        rw [show (n - n).toNat = 0 by omega]; simp [cnt, h0]
      · rw [if_neg h0] at h
        obtain ⟨a, b, c, d⟩ := seek_some S k (n + 1) (i - 1) v h
        refine ⟨by omega, by push_cast; omega, c, ?_⟩
        rw [show (v - n).toNat = (v - (n + 1)).toNat + 1 by omega]
        simp only [cnt]
        rw [if_pos hS, d]; omega
    · rw [if_neg hS] at h
      obtain ⟨a, b, c, d⟩ := seek_some S k (n + 1) i v h
      refine ⟨by omega, by push_cast; omega, c, ?_⟩
      rw [show (v - n).toNat = (v - (n + 1)).toNat + 1 by omega]
      simp only [cnt]
      rw [if_neg hS, d]; omega
theorem seek_in (S : Int → Bool) : ∀ (k : Nat) (n i : Int), 0 ≤ i → i < cnt S k n → ∃ v, seek S k n i = some v
  | 0, n, i, h0, h1 => by simp [cnt] at h1; omega
  | k + 1, n, i, h0, h1 => by
    unfold cnt at h1
    unfold seek
    by_cases hS : S n = true
    · rw [if_pos hS] at h1 ⊢
      by_cases h2 : i = 0
      · exact ⟨n, by rw [if_pos h2]⟩
      · rw [if_neg h2]; exact seek_in S k (n + 1) (i - 1) (by omega) (by omega)
    · rw [if_neg hS] at h1 ⊢
      exact seek_in S k (n + 1) i h0 (by omega)
theorem seek_out (S : Int → Bool) : ∀ (k : Nat) (n i : Int), cnt S k n ≤ i → seek S k n i = none
  | 0, n, i, _ => rfl
  | k + 1, n, i, h => by
    unfold cnt at h
    unfold seek
    have := (cnt_nonneg S k (n + 1)).1
    by_cases hS : S n = true
    · rw [if_pos hS] at h ⊢
      rw [if_neg (by omega)]
      exact seek_out S k (n + 1) (i - 1) (by omega)
    · rw [if_neg hS] at h ⊢
      exact seek_out S k (n + 1) i (by omega)
/-- the rank rises behind each integer that is there -/
theorem cnt_step (S : Int → Bool) (n u v : Int) (h1 : n ≤ u) (h2 : u < v) (hS : S u = true) : cnt S (u - n).toNat n + 1 ≤ cnt S (v - n).toNat n := by
  rw [show (v - n).toNat = (u - n).toNat + ((v - u).toNat - 1 + 1) by omega, cnt_add]
  have e : n + ((u - n).toNat : Int) = u := by omega
  rw [e]
  simp only [cnt]
  rw [if_pos hS]
  have := (cnt_nonneg S ((v - u).toNat - 1) (u + 1)).1
  omega
theorem cnt_mono (S : Int → Bool) (n u v : Int) (h1 : n ≤ u) (h2 : u ≤ v) : cnt S (u - n).toNat n ≤ cnt S (v - n).toNat n := by
  rw [show (v - n).toNat = (u - n).toNat + (v - u).toNat by omega, cnt_add]
  have := (cnt_nonneg S (v - u).toNat (n + ((u - n).toNat : Int))).1
  omega

/-- the set's integer at a place -/
def placeS (S : Int → Bool) (i : Int) : Option Int := if i < 0 then none else atL (canon S) i
theorem placeS_eq (S : Int → Bool) (i : Int) (h : 0 ≤ i) : placeS S i = seek S 401 (-200) i := by
  unfold placeS; rw [if_neg (by omega), atL_canon S i h]
theorem placeS_in (S : Int → Bool) (i : Int) (h0 : 0 ≤ i) (h1 : i < sizeL (canon S)) : ∃ v, placeS S i = some v ∧ -200 ≤ v ∧ v ≤ 200 ∧ S v = true := by
  rw [sizeL_canon] at h1
  obtain ⟨v, hv⟩ := seek_in S 401 (-200) i h0 h1
  obtain ⟨a, b, c, _⟩ := seek_some S _ _ _ _ hv
  exact ⟨v, by rw [placeS_eq S i h0, hv], a, by omega, c⟩
theorem placeS_out (S : Int → Bool) (i : Int) (h : sizeL (canon S) ≤ i) : placeS S i = none := by
  rw [sizeL_canon] at h
  have := (cnt_nonneg S 401 (-200)).1
  rw [placeS_eq S i (by omega)]
  exact seek_out S _ _ _ h
theorem placeS_neg (S : Int → Bool) (i : Int) (h : i < 0) : placeS S i = none := by unfold placeS; rw [if_pos h]
theorem placeS_next (S : Int → Bool) (i v v' : Int) (h0 : 0 ≤ i) (h1 : placeS S i = some v) (h2 : placeS S (i + 1) = some v') : v < v' ∧ ∀ k, v < k → k < v' → S k = false := by
  rw [placeS_eq S _ h0] at h1
  rw [placeS_eq S _ (by omega)] at h2
  obtain ⟨a1, b1, c1, d1⟩ := seek_some S _ _ _ _ h1
  obtain ⟨a2, b2, c2, d2⟩ := seek_some S _ _ _ _ h2
  have hlt : v < v' := by
    rcases (show v < v' ∨ v' ≤ v by omega) with h | h
    · exact h
    · have := cnt_mono S (-200) v' v a2 h; omega
  refine ⟨hlt, fun k hk1 hk2 => ?_⟩
  cases hS : S k with
  | false => rfl
  | true =>
    have x1 := cnt_step S (-200) v k a1 hk1 c1
    have x2 := cnt_step S (-200) k v' (by omega) hk2 hS
    omega
theorem placeS_first (S : Int → Bool) (v : Int) (h1 : placeS S 0 = some v) : ∀ k, -200 ≤ k → k < v → S k = false := by
  rw [placeS_eq S _ (by decide)] at h1
  obtain ⟨a1, b1, c1, d1⟩ := seek_some S _ _ _ _ h1
  intro k hk1 hk2
  cases hS : S k with
  | false => rfl
  | true =>
    have x2 := cnt_step S (-200) k v hk1 hk2 hS
    have := (cnt_nonneg S (k - -200).toNat (-200)).1
    omega

theorem sizeL_pos : ∀ (l : List Rg), (∀ r ∈ l, r.1 ≤ r.2) → 0 ≤ sizeL l ∧ (sizeL l = 0 → l = [])
  | [], _ => ⟨Int.le_refl _, fun _ => rfl⟩
  | r :: l, h => by
    have h1 := h r (by simp)
    have h2 := (sizeL_pos l (fun x hx => h x (by simp [hx]))).1
    simp only [sizeL]
    exact ⟨by omega, fun h => by omega⟩
theorem atL_last : ∀ (M : List Rg) (p : Rg), (∀ r ∈ M, r.1 ≤ r.2) → p.1 ≤ p.2 → atL (M ++ [p]) (sizeL (M ++ [p]) - 1) = some p.2
  | [], p, _, hp => by
    simp only [List.nil_append, atL, sizeL]
    rw [if_neg (by omega)]; congr 1; omega
  | r :: M, p, h, hp => by
    have h1 := h r (by simp)
    have ih := atL_last M p (fun x hx => h x (by simp [hx])) hp
    have h2 := (sizeL_pos M (fun x hx => h x (by simp [hx]))).1
    have h3 : sizeL (M ++ [p]) = sizeL M + (p.2 - p.1 + 1) := by rw [sizeL_append]; simp [sizeL]
    simp only [List.cons_append, atL, sizeL]
    rw [if_pos (by omega), show r.2 - r.1 + 1 + sizeL (M ++ [p]) - 1 - (r.2 - r.1 + 1) = sizeL (M ++ [p]) - 1 by omega]
    exact ih
/-- the ends are the first and the last -/
theorem ends_place (S : Int → Bool) : ((endsL (canon S)).2.2 = decide (0 < sizeL (canon S))) ∧ (0 < sizeL (canon S) → placeS S 0 = some (endsL (canon S)).1 ∧ placeS S (sizeL (canon S) - 1) = some (endsL (canon S)).2.1) := by
  have hb := (canon_normal S).bounds
  have hok : ∀ r ∈ canon S, r.1 ≤ r.2 := fun r hr => (hb r hr).2.1
  unfold placeS
  generalize canon S = L at *
  rcases List.eq_nil_or_concat L with rfl | ⟨M, p, rfl⟩
  · exact ⟨rfl, fun h => by simp [sizeL] at h⟩
  · rw [List.concat_eq_append] at *
    have hM : ∀ r ∈ M, r.1 ≤ r.2 := fun r hr => hok r (by simp [hr])
    have hp := hok p (by simp)
    have hpos : 0 < sizeL (M ++ [p]) := by
      rw [sizeL_append]
      have := (sizeL_pos M hM).1
      simp only [sizeL]; omega
    have hl := atL_last M p hM hp
    rw [if_neg (by decide), if_neg (by omega), hl]
    refine ⟨?_, fun _ => ?_⟩
    · rw [show decide (0 < sizeL (M ++ [p])) = true by simpa using hpos]
      cases M <;> rfl
    · cases M with
      | nil =>
        simp only [List.nil_append, atL, endsL]
        exact ⟨by rw [if_neg (by omega)]; simp, rfl⟩
      | cons r M =>
        have hr := hM r (by simp)
        have hl2 : (r :: (M ++ [p])).getLast (by simp) = p := by
          have h1 : (r :: (M ++ [p])).getLast? = some p := List.getLast?_concat (l := r :: M) (a := p)
          rw [List.getLast?_eq_some_getLast (by simp)] at h1
          exact Option.some.inj h1
        simp only [List.cons_append, atL, endsL]
        refine ⟨by rw [if_neg (by omega)]; simp, ?_⟩
        rw [hl2]
end Go.Proofs.Ytkhiogcdamjocaa
