/-
  The plain law of the best: the first of the order that is not skipped is the best of those that are not skipped. No program.
-/
import Derived.Test.YtmeilhjloeghhaaRefBest
namespace Go.Proofs.Ytmeilhjloeghhaa
open Go.RowKit

theorem lessK_irrefl (a : Option Int) : lessK a a = false := by cases a <;> simp [lessK]
theorem lessK_asymm {a b : Option Int} (h : lessK a b = true) : lessK b a = false := by
  have := lessK_asym a b
  rw [h] at this; simpa using this

/-- a stands ahead of b in the order: less, or alike and ahead in the list -/
def ahead (ks : Nat → Option Int) (a b : Nat) : Prop := lessK (ks a) (ks b) = true ∨ (lessK (ks b) (ks a) = false ∧ a < b)
theorem ahead_trans {ks : Nat → Option Int} {a b c : Nat} (h1 : ahead ks a b) (h2 : ahead ks b c) : ahead ks a c := by
  rcases h1 with h1 | ⟨h1, l1⟩ <;> rcases h2 with h2 | ⟨h2, l2⟩
  · exact .inl (lessK_trans _ _ _ h1 h2)
  · cases hca : lessK (ks c) (ks a) with
    | true => have := lessK_trans _ _ _ hca h1; rw [h2] at this; cases this
    | false =>
      cases hac : lessK (ks a) (ks c) with
      | true => exact .inl hac
      | false =>
        exfalso
        cases hbc : lessK (ks b) (ks c) with
        | true => have := lessK_trans _ _ _ h1 hbc; rw [hac] at this; cases this
        | false =>
          have hba := lessK_asymm h1
          have := lessK_alike (ks a) (ks c) (ks b) hac hca h2 hbc
          rw [h1] at this; cases this.1
  · cases hca : lessK (ks c) (ks a) with
    | true => have := lessK_trans _ _ _ h2 hca; rw [h1] at this; cases this
    | false =>
      cases hac : lessK (ks a) (ks c) with
      | true => exact .inl hac
      | false =>
        exfalso
        cases hab : lessK (ks a) (ks b) with
        | true => have := lessK_trans _ _ _ hab h2; rw [hac] at this; cases this
        | false =>
          have := lessK_alike (ks b) (ks a) (ks c) h1 hab hac hca
          rw [h2] at this; cases this.1
  · cases hab : lessK (ks a) (ks b) with
    | true =>
      cases hca : lessK (ks c) (ks a) with
      | true => have := lessK_trans _ _ _ hca hab; rw [h2] at this; cases this
      | false => exact .inr ⟨hca, by omega⟩
    | false =>
      cases hbc : lessK (ks b) (ks c) with
      | true =>
        cases hca : lessK (ks c) (ks a) with
        | true => have := lessK_trans _ _ _ hbc hca; rw [h1] at this; cases this
        | false => exact .inr ⟨hca, by omega⟩
      | false =>
        have := lessK_alike (ks a) (ks b) (ks c) hab h1 hbc h2
        exact .inr ⟨this.2, by omega⟩
theorem ahead_total {ks : Nat → Option Int} {a b : Nat} (h : a ≠ b) : ahead ks a b ∨ ahead ks b a := by
  unfold ahead
  cases h1 : lessK (ks a) (ks b) <;> cases h2 : lessK (ks b) (ks a) <;> simp <;> omega
theorem ahead_asymm {ks : Nat → Option Int} {a b : Nat} (h1 : ahead ks a b) (h2 : ahead ks b a) : False := by
  rcases h1 with h1 | ⟨h1, l1⟩ <;> rcases h2 with h2 | ⟨h2, l2⟩
  · rw [lessK_asymm h1] at h2; cases h2
  · rw [h1] at h2; cases h2
  · rw [h1] at h2; cases h2
  · omega

theorem insert_sorted (ks : Nat → Option Int) (out : List Nat) (i : Nat) (hs : out.Pairwise (ahead ks)) (hlt : ∀ x ∈ out, x < i) : (insertO ks out i).Pairwise (ahead ks) := by
  have hle := List.findIdx_le_length (xs := out) (p := fun j => lessK (ks i) (ks j))
  have hbefore : ∀ x ∈ out.take (out.findIdx (fun j => lessK (ks i) (ks j))), ahead ks x i := fun x hx => by
    obtain ⟨j, hj, rfl⟩ := List.mem_take_iff_getElem.1 hx
    have := List.not_of_lt_findIdx (p := fun j => lessK (ks i) (ks j)) (xs := out) (i := j) (by omega)
    exact .inr ⟨by simpa using this, hlt _ (List.getElem_mem _)⟩
  have hafter : ∀ x ∈ out.drop (out.findIdx (fun j => lessK (ks i) (ks j))), ahead ks i x := fun x hx => by
    generalize hf : out.findIdx (fun j => lessK (ks i) (ks j)) = f at *
    rcases Nat.lt_or_ge f out.length with h | h
    · have h1 : lessK (ks i) (ks out[f]) = true := by
        have := List.findIdx_getElem (p := fun j => lessK (ks i) (ks j)) (xs := out) (w := by rw [hf]; exact h)
        simpa [hf] using this
      rw [List.drop_eq_getElem_cons h] at hx
      rcases List.mem_cons.1 hx with rfl | hx
      · exact .inl h1
      · have hp : (out.drop f).Pairwise (ahead ks) := hs.sublist (List.drop_sublist _ _)
        rw [List.drop_eq_getElem_cons h] at hp
        exact ahead_trans (.inl h1) ((List.pairwise_cons.1 hp).1 x hx)
    · rw [List.drop_eq_nil_of_le h] at hx; cases hx
  unfold insertO
  rw [List.append_assoc, List.pairwise_append]
  refine ⟨hs.sublist (List.take_sublist _ _), ?_, ?_⟩
  · rw [List.singleton_append, List.pairwise_cons]
    exact ⟨hafter, hs.sublist (List.drop_sublist _ _)⟩
  · intro a ha b hb
    rcases List.mem_append.1 hb with hb | hb
    · rw [List.mem_singleton.1 hb]; exact hbefore a ha
    · exact ahead_trans (hbefore a ha) (hafter b hb)
theorem orderO_sorted (ks : Nat → Option Int) : ∀ n, (orderO ks n).Pairwise (ahead ks)
  | 0 => List.Pairwise.nil
  | n + 1 => insert_sorted ks _ n (orderO_sorted ks n) (orderO_lt ks n)
theorem mem_insertO (ks : Nat → Option Int) (out : List Nat) (i x : Nat) : x ∈ insertO ks out i ↔ x = i ∨ x ∈ out := by
  unfold insertO
  have : x ∈ out ↔ x ∈ out.take (out.findIdx (fun j => lessK (ks i) (ks j))) ∨ x ∈ out.drop (out.findIdx (fun j => lessK (ks i) (ks j))) := by
    rw [← List.mem_append, List.take_append_drop]
  simp only [List.mem_append, List.mem_singleton]
  rw [this]
  constructor
  · rintro ((h | h) | h)
    · exact .inr (.inl h)
    · exact .inl h
    · exact .inr (.inr h)
  · rintro (h | h | h)
    · exact .inl (.inr h)
    · exact .inl (.inl h)
    · exact .inr h
theorem mem_orderO (ks : Nat → Option Int) : ∀ n x, x ∈ orderO ks n ↔ x < n
  | 0, x => by simp [orderO]
  | n + 1, x => by rw [orderO, mem_insertO, mem_orderO ks n x]; omega

/-- what the best place is -/
def IsBest (ks : Nat → Option Int) (sk : Nat → Bool) (n : Nat) : Option Nat → Prop
  | none => ∀ j, j < n → sk j = true
  | some b => b < n ∧ sk b = false ∧ ∀ j, j < n → sk j = false → j ≠ b → ahead ks b j
theorem IsBest.unique {ks : Nat → Option Int} {sk : Nat → Bool} {n : Nat} {a b : Option Nat} (ha : IsBest ks sk n a) (hb : IsBest ks sk n b) : a = b := by
  cases a with
  | none => cases b with
    | none => rfl
    | some b => have := ha b hb.1; rw [hb.2.1] at this; cases this
  | some a => cases b with
    | none => have := hb a ha.1; rw [ha.2.1] at this; cases this
    | some b =>
      by_cases e : a = b
      · rw [e]
      · exact (ahead_asymm (ha.2.2 b hb.1 hb.2.1 (Ne.symm e)) (hb.2.2 a ha.1 ha.2.1 e)).elim
theorem bestI_is (ks : Nat → Option Int) (sk : Nat → Bool) : ∀ n, IsBest ks sk n (bestI ks sk n)
  | 0 => fun j hj => by omega
  | n + 1 => by
    have ih := bestI_is ks sk n
    unfold bestI
    split
    · rename_i hs
      cases hb : bestI ks sk n with
      | none =>
        rw [hb] at ih
        intro j hj
        by_cases e : j = n
        · rw [e]; exact hs
        · exact ih j (by omega)
      | some b =>
        rw [hb] at ih
        refine ⟨by have := ih.1; omega, ih.2.1, fun j hj h1 h2 => ?_⟩
        by_cases e : j = n
        · rw [e, hs] at h1; cases h1
        · exact ih.2.2 j (by omega) h1 h2
    · rename_i hs
      have hs' : sk n = false := by simpa using hs
      cases hb : bestI ks sk n with
      | none =>
        rw [hb] at ih
        refine ⟨by omega, hs', fun j hj h1 h2 => ?_⟩
        have := ih j (by omega)
        rw [h1] at this; cases this
      | some b =>
        rw [hb] at ih
        have hbn := ih.1
        dsimp only
        split
        · rename_i hl
          refine ⟨by omega, hs', fun j hj h1 h2 => ?_⟩
          by_cases e : j = b
          · rw [e]; exact .inl hl
          · exact ahead_trans (.inl hl) (ih.2.2 j (by omega) h1 e)
        · rename_i hl
          refine ⟨by omega, ih.2.1, fun j hj h1 h2 => ?_⟩
          by_cases e : j = n
          · rw [e]; exact .inr ⟨by simpa using hl, hbn⟩
          · exact ih.2.2 j (by omega) h1 h2
theorem find_sorted {ks : Nat → Option Int} (p : Nat → Bool) : ∀ (l : List Nat), l.Pairwise (ahead ks) → ∀ b, l.find? p = some b → b ∈ l ∧ p b = true ∧ ∀ j ∈ l, p j = true → j ≠ b → ahead ks b j
  | [], _, b, h => by simp at h
  | x :: l, hs, b, h => by
    rw [List.pairwise_cons] at hs
    rw [List.find?_cons] at h
    cases hp : p x with
    | true =>
      rw [hp] at h
      injection h with h
      subst h
      refine ⟨List.mem_cons_self .., hp, fun j hj h1 h2 => ?_⟩
      rcases List.mem_cons.1 hj with rfl | hj
      · exact absurd rfl h2
      · exact hs.1 j hj
    | false =>
      rw [hp] at h
      obtain ⟨a1, a2, a3⟩ := find_sorted p l hs.2 b h
      refine ⟨List.mem_cons_of_mem _ a1, a2, fun j hj h1 h2 => ?_⟩
      rcases List.mem_cons.1 hj with rfl | hj
      · rw [hp] at h1; cases h1
      · exact a3 j hj h1 h2
theorem find_is (ks : Nat → Option Int) (sk : Nat → Bool) (n : Nat) : IsBest ks sk n ((orderO ks n).find? fun j => !sk j) := by
  cases h : (orderO ks n).find? fun j => !sk j with
  | none =>
    rw [List.find?_eq_none] at h
    intro j hj
    have := h j ((mem_orderO ks n j).2 hj)
    simpa using this
  | some b =>
    obtain ⟨a1, a2, a3⟩ := find_sorted _ _ (orderO_sorted ks n) b h
    refine ⟨(mem_orderO ks n b).1 a1, by simpa using a2, fun j hj h1 h2 => a3 j ((mem_orderO ks n j).2 hj) (by simp [h1]) h2⟩
/-- THE PLAIN LAW -/
theorem best_plain (ks : Nat → Option Int) (sk : Nat → Bool) (n : Nat) : ((orderO ks n).find? fun j => !sk j) = bestI ks sk n :=
  (find_is ks sk n).unique (bestI_is ks sk n)

/-- the best of two lists, one behind the other -/
theorem best_joined (ks : Nat → Option Int) (n m : Nat) :
    bestI ks (fun _ => false) (n + m) = match bestI ks (fun _ => false) n, bestI (fun j => ks (n + j)) (fun _ => false) m with
      | none, none => none
      | some a, none => some a
      | none, some b => some (n + b)
      | some a, some b => if lessK (ks (n + b)) (ks a) = true then some (n + b) else some a := by
  refine (bestI_is ks (fun _ => false) (n + m)).unique ?_
  have h1 := bestI_is ks (fun _ => false) n
  have h2 := bestI_is (fun j => ks (n + j)) (fun _ => false) m
  cases hb1 : bestI ks (fun _ => false) n with
  | none =>
    rw [hb1] at h1
    have hn : n = 0 := by
      rcases Nat.eq_zero_or_pos n with h | h
      · exact h
      · have := h1 0 h; cases this
    cases hb2 : bestI (fun j => ks (n + j)) (fun _ => false) m with
    | none =>
      rw [hb2] at h2
      intro j hj
      have := h2 j (by omega); cases this
    | some b =>
      rw [hb2] at h2
      refine ⟨by have := h2.1; omega, rfl, fun j hj _ hne => ?_⟩
      have := h2.2.2 (j - n) (by omega) rfl (by omega)
      unfold ahead at this ⊢
      dsimp only at this
      rw [show n + (j - n) = j by omega] at this
      rcases this with h | ⟨h, l⟩
      · exact .inl h
      · exact .inr ⟨h, by omega⟩
  | some a =>
    rw [hb1] at h1
    have ha := h1.1
    cases hb2 : bestI (fun j => ks (n + j)) (fun _ => false) m with
    | none =>
      rw [hb2] at h2
      have hm : m = 0 := by
        rcases Nat.eq_zero_or_pos m with h | h
        · exact h
        · have := h2 0 h; cases this
      exact ⟨by omega, rfl, fun j hj _ hne => h1.2.2 j (by omega) rfl hne⟩
    | some b =>
      rw [hb2] at h2
      have hb := h2.1
      have key : ∀ j, j < m → j ≠ b → ahead ks (n + b) (n + j) := fun j hj hne => by
        have := h2.2.2 j hj rfl hne
        unfold ahead at this ⊢
        rcases this with h | ⟨h, l⟩
        · exact .inl h
        · exact .inr ⟨h, by omega⟩
      dsimp only
      split
      · rename_i hl
        refine ⟨by omega, rfl, fun j hj _ hne => ?_⟩
        by_cases hjn : j < n
        · by_cases e : j = a
          · rw [e]; exact .inl hl
          · exact ahead_trans (.inl hl) (h1.2.2 j hjn rfl e)
        · have := key (j - n) (by omega) (by omega)
          rwa [show n + (j - n) = j by omega] at this
      · rename_i hl
        have hab : ahead ks a (n + b) := .inr ⟨by simpa using hl, by omega⟩
        refine ⟨by omega, rfl, fun j hj _ hne => ?_⟩
        by_cases hjn : j < n
        · exact h1.2.2 j hjn rfl hne
        · by_cases e : j - n = b
          · rw [show j = n + b by omega]; exact hab
          · have := key (j - n) (by omega) e
            rw [show n + (j - n) = j by omega] at this
            exact ahead_trans hab this
theorem bestI_congr {ks ks' : Nat → Option Int} {sk sk' : Nat → Bool} : ∀ n, (∀ j, j < n → ks j = ks' j ∧ sk j = sk' j) → bestI ks sk n = bestI ks' sk' n
  | 0, _ => rfl
  | n + 1, h => by
    have ih := bestI_congr n (fun j hj => h j (by omega))
    have hn := h n (by omega)
    unfold bestI
    rw [ih, hn.1, hn.2]
    split
    · rfl
    · cases hb : bestI ks' sk' n with
      | none => rfl
      | some b =>
        have := bestI_lt _ _ _ _ hb
        dsimp only
        rw [(h b (by omega)).1]
end Go.Proofs.Ytmeilhjloeghhaa
