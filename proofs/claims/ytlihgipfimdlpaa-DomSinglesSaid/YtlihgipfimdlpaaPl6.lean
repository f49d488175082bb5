/-
  PLAIN LAWS of sets of single integers. No program.
-/
import Derived.Test.YtlihgipfimdlpaaPl5
namespace Go.Proofs.Ytlihgipfimdlpaa

def joinAll (A : List Rg) (ms : List Int) : List Rg := ms.foldl (fun A m => joinL A [(m, m)]) A
def minusAll (A : List Rg) (ms : List Int) : List Rg := ms.foldl (fun A m => minusL A [(m, m)]) A
theorem joinAll_snoc (A : List Rg) (ms : List Int) (m : Int) : joinAll A (ms ++ [m]) = joinL (joinAll A ms) [(m, m)] := by simp [joinAll, List.foldl_append]
theorem minusAll_snoc (A : List Rg) (ms : List Int) (m : Int) : minusAll A (ms ++ [m]) = minusL (minusAll A ms) [(m, m)] := by simp [minusAll, List.foldl_append]
theorem take_next {α : Type} (l : List α) (k : Nat) (h : k < l.length) : l.take (k + 1) = l.take k ++ [l[k]] := List.take_succ_eq_append_getElem h
theorem joinAll_normal : ∀ (ms : List Int) (A : List Rg), Normal A → Normal (joinAll A ms)
  | [], _, h => h
  | m :: ms, A, _ => joinAll_normal ms (joinL A [(m, m)]) (canon_normal _)
theorem minusAll_normal : ∀ (ms : List Int) (A : List Rg), Normal A → Normal (minusAll A ms)
  | [], _, h => h
  | m :: ms, A, _ => minusAll_normal ms (minusL A [(m, m)]) (canon_normal _)
theorem mem_single (m n : Int) : memL [(m, m)] n = decide (m = n) := by
  rw [memL_cons, memL_nil, Bool.or_false]
  by_cases h : m = n
  · subst h; simp
  · simp only [h, decide_false]
    rcases (show m < n ∨ n < m by omega) with h1 | h1
    · simp; omega
    · simp; omega
theorem joinAll_mem : ∀ (ms : List Int) (A : List Rg), Normal A → (∀ m ∈ ms, -200 ≤ m ∧ m ≤ 200) → ∀ n, memL (joinAll A ms) n = (memL A n || ms.any fun m => decide (m = n))
  | [], A, _, _, n => by simp [joinAll]
  | m :: ms, A, hA, hm, n => by
    have h1 := joinAll_mem ms (joinL A [(m, m)]) (canon_normal _) (fun x hx => hm x (by simp [hx])) n
    have e : memL (joinL A [(m, m)]) n = (memL A n || decide (m = n)) := by
      rw [joinL, canon_mem, mem_single]
      have hmm := hm m (by simp)
      by_cases hD : -200 ≤ n ∧ n ≤ 200
      · simp [hD.1, hD.2]
      · have h2 : memL A n = false := by
          cases h : memL A n with
          | false => rfl
          | true => exact absurd (memL_bounds hA h) hD
        have h3 : decide (m = n) = false := by simp; omega
        rw [h2, h3]; simp
    show memL (joinAll (joinL A [(m, m)]) ms) n = _
    rw [h1, e, List.any_cons, Bool.or_assoc]
theorem minusAll_mem : ∀ (ms : List Int) (A : List Rg), Normal A → ∀ n, memL (minusAll A ms) n = (memL A n && !ms.any fun m => decide (m = n))
  | [], A, _, n => by simp [minusAll]
  | m :: ms, A, hA, n => by
    have h1 := minusAll_mem ms (minusL A [(m, m)]) (canon_normal _) n
    have e : memL (minusL A [(m, m)]) n = (memL A n && !decide (m = n)) := by
      rw [minusL, canon_mem, mem_single]
      by_cases hD : -200 ≤ n ∧ n ≤ 200
      · simp [hD.1, hD.2]
      · have h2 : memL A n = false := by
          cases h : memL A n with
          | false => rfl
          | true => exact absurd (memL_bounds hA h) hD
        rw [h2]; simp
    show memL (minusAll (minusL A [(m, m)]) ms) n = _
    rw [h1, e, List.any_cons]
    cases memL A n <;> simp
theorem size_sum (a b : List Rg) : sizeL (joinL a b) + sizeL (meetL a b) = sizeL (norm a) + sizeL (norm b) := by
  unfold joinL meetL norm
  rw [sizeL_canon, sizeL_canon, sizeL_canon, sizeL_canon]
  exact cnt_join _ _ _ _
theorem norm_single (m : Int) (h : -200 ≤ m ∧ m ≤ 200) : norm [(m, m)] = [(m, m)] :=
  norm_of_normal (by show NormFrom _ _; unfold NormFrom; exact ⟨h.1, Int.le_refl _, h.2, trivial⟩)
theorem joinAll_size : ∀ (ms : List Int) (A : List Rg), Normal A → (∀ m ∈ ms, -200 ≤ m ∧ m ≤ 200) → sizeL (joinAll A ms) ≤ sizeL A + ms.length
  | [], A, _, _ => by simp [joinAll]
  | m :: ms, A, hA, hm => by
    have h1 := joinAll_size ms (joinL A [(m, m)]) (canon_normal _) (fun x hx => hm x (by simp [hx]))
    have h2 := size_sum A [(m, m)]
    rw [norm_of_normal hA, norm_single m (hm m (by simp))] at h2
    have h3 : 0 ≤ sizeL (meetL A [(m, m)]) := by rw [meetL, sizeL_canon]; exact (cnt_nonneg _ _ _).1
    have h4 : sizeL [(m, m)] = 1 := by simp [sizeL]
    show sizeL (joinAll (joinL A [(m, m)]) ms) ≤ _
    simp only [List.length_cons]
    push_cast
    omega
theorem normal_nil : Normal [] := trivial
theorem singles_none (ms : List Int) (hm : ∀ m ∈ ms, -200 ≤ m ∧ m ≤ 200) : minusAll (joinAll [] ms) ms = [] := by
  refine normal_unique (minusAll_normal ms _ (joinAll_normal ms [] normal_nil)) normal_nil (fun n => ?_)
  rw [minusAll_mem ms _ (joinAll_normal ms [] normal_nil), joinAll_mem ms [] normal_nil hm, memL_nil, Bool.false_or]
  cases (ms.any fun m => decide (m = n)) <;> rfl
theorem singles_has (ms : List Int) (hm : ∀ m ∈ ms, -200 ≤ m ∧ m ≤ 200) (m : Int) (h : m ∈ ms) : (inD m && memL (joinAll [] ms) m) = true := by
  have h1 := hm m h
  rw [joinAll_mem ms [] normal_nil hm]
  simp [inD, h1.1, h1.2, memL_nil, h]
theorem singles_len (ms : List Int) : (joinAll [] ms).length ≤ 201 := normal_len (joinAll_normal ms [] normal_nil)
theorem singles_len2 (A : List Rg) (ms : List Int) (h : Normal A) : (minusAll A ms).length ≤ 201 := normal_len (minusAll_normal ms A h)
theorem singles_size (ms : List Int) (hm : ∀ m ∈ ms, -200 ≤ m ∧ m ≤ 200) : sizeL (norm (joinAll [] ms)) ≤ ms.length ∧ 0 ≤ sizeL (norm (joinAll [] ms)) ∧ (0 < ms.length → 0 < sizeL (norm (joinAll [] ms))) := by
  have hN := joinAll_normal ms [] normal_nil
  rw [norm_of_normal hN]
  have h1 := joinAll_size ms [] normal_nil hm
  have h2 := sizeL_pos (joinAll [] ms) (fun r hr => (hN.bounds r hr).2.1)
  refine ⟨by simpa [sizeL] using h1, h2.1, fun h => ?_⟩
  rcases (show sizeL (joinAll [] ms) = 0 ∨ 0 < sizeL (joinAll [] ms) by have := h2.1; omega) with h0 | h0
  · have e := h2.2 h0
    cases ms with
    | nil => simp at h
    | cons m ms =>
      have := singles_has (m :: ms) hm m (by simp)
      rw [e, memL_nil] at this
      simp at this
  · exact h0
end Go.Proofs.Ytlihgipfimdlpaa
