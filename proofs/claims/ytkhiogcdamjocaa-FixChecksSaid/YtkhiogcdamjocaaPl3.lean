/-
  PLAIN LAW of going through all integers one by one. No program.
-/
import Derived.Test.YtkhiogcdamjocaaPl2
namespace Go.Proofs.Ytkhiogcdamjocaa

/-- the last range's upper end turned -/
def setTop (O : List Rg) (n : Int) : List Rg :=
  match O.getLast? with
  | none => O
  | some p => O.dropLast ++ [(p.1, n)]
theorem setTop_snoc (M : List Rg) (p : Rg) (n : Int) : setTop (M ++ [p]) n = M ++ [(p.1, n)] := by unfold setTop; simp
def accL (S : Int → Bool) : Nat → List Rg × Bool
  | 0 => ([], false)
  | k + 1 =>
    if S ((k : Int) - 200) = true then
      (if (accL S k).2 = true then setTop (accL S k).1 ((k : Int) - 200) else (accL S k).1 ++ [((k : Int) - 200, (k : Int) - 200)], true)
    else ((accL S k).1, false)
theorem accL_ok (S : Int → Bool) : ∀ k : Nat, k ≤ 401 → Normal (accL S k).1 ∧ (∀ n, memL (accL S k).1 n = (decide (-200 ≤ n) && decide (n < (k : Int) - 200) && S n)) ∧
    ((accL S k).2 = true → ∃ M p, (accL S k).1 = M ++ [p] ∧ p.2 = (k : Int) - 201) ∧ ((accL S k).2 = false → ∀ p ∈ (accL S k).1, p.2 + 2 ≤ (k : Int) - 200)
  | 0, _ => ⟨trivial, fun n => by rw [accL, memL_nil]; symm; simp; omega, fun h => by simp [accL] at h, fun _ p hp => by simp [accL] at hp⟩
  | k + 1, hk => by
    obtain ⟨h1, h2, h3, h4⟩ := accL_ok S k (by omega)
    unfold accL
    generalize accL S k = st at h1 h2 h3 h4
    obtain ⟨O, op⟩ := st
    dsimp only at h1 h2 h3 h4 ⊢
    by_cases hS : S ((k : Int) - 200) = true
    · rw [if_pos hS]
      cases op with
      | true =>
        obtain ⟨M, p, rfl, hp⟩ := h3 rfl
        rw [if_pos rfl, setTop_snoc]
        obtain ⟨n1, n2, n3, n4, n5⟩ := NormFrom.snoc.1 h1
        refine ⟨NormFrom.snoc.2 ⟨n1, n2, by dsimp only; omega, by dsimp only; omega, n5⟩, fun n => ?_, fun _ => ⟨M, _, rfl, by push_cast; first | omega | (dsimp only; omega)⟩, fun h => by cases h⟩
        have := h2 n
        rw [memL_append, memL_cons, memL_nil] at this ⊢
        by_cases e : n = (k : Int) - 200
        · subst e
          rw [hS, Bool.eq_iff_iff]; simp; omega
        · have e1 : (decide (p.1 ≤ n) && decide (n ≤ (k : Int) - 200)) = (decide (p.1 ≤ n) && decide (n ≤ p.2)) := by
            rw [Bool.eq_iff_iff]; simp; omega
          have e2 : decide (n < ((k + 1 : Nat) : Int) - 200) = decide (n < (k : Int) - 200) := by
            rw [decide_eq_decide]; push_cast; omega
          dsimp only
          rw [e1, e2, this]
      | false =>
        rw [if_neg (by simp)]
        refine ⟨NormFrom.snoc.2 ⟨h1, by dsimp only; omega, Int.le_refl _, by dsimp only; omega, h4 rfl⟩, fun n => ?_, fun _ => ⟨O, _, rfl, by push_cast; first | omega | (dsimp only; omega)⟩, fun h => by cases h⟩
        rw [memL_append, memL_cons, memL_nil, h2 n]
        by_cases e : n = (k : Int) - 200
        · subst e
          rw [hS, Bool.eq_iff_iff]; simp; omega
        · have e1 : (decide ((k : Int) - 200 ≤ n) && decide (n ≤ (k : Int) - 200)) = false := by simp; omega
          have e2 : decide (n < ((k + 1 : Nat) : Int) - 200) = decide (n < (k : Int) - 200) := by
            rw [decide_eq_decide]; push_cast; omega
          dsimp only
          rw [e1, e2]; simp
    · rw [if_neg hS]
      refine ⟨h1, fun n => ?_, fun h => (by cases h), fun _ p hp => ?_⟩
      · rw [h2 n]
        by_cases e : n = (k : Int) - 200
        · subst e
          have : S ((k : Int) - 200) = false := by simpa using hS
          simp [this]
        · have e2 : decide (n < ((k + 1 : Nat) : Int) - 200) = decide (n < (k : Int) - 200) := by
            rw [decide_eq_decide]; push_cast; omega
          rw [e2]
      · push_cast
        cases op with
        | true =>
          obtain ⟨M, q, rfl, hq⟩ := h3 rfl
          rcases List.mem_append.1 hp with h | h
          · have := (NormFrom.snoc.1 h1).2.2.2.2 p h
            have := (NormFrom.snoc.1 h1).2.2.1
            omega
          · simp at h; subst h; omega
        | false => have := h4 rfl p hp; omega
theorem accL_canon (S : Int → Bool) : (accL S 401).1 = canon S := by
  obtain ⟨h1, h2, _⟩ := accL_ok S 401 (Nat.le_refl _)
  refine is_canon h1 (fun n a b => ?_)
  rw [h2 n]; simp [a]; omega
theorem accL_len (S : Int → Bool) (k : Nat) (hk : k ≤ 401) : (accL S k).1.length ≤ 201 := normal_len (accL_ok S k hk).1

/-- is the list normal as it stands? one range more -/
theorem normal_snoc {out : List Rg} {p : Rg} : Normal (out ++ [p]) ↔ Normal out ∧ -200 ≤ p.1 ∧ p.1 ≤ p.2 ∧ p.2 ≤ 200 ∧ (∀ q, out.getLast? = some q → ¬ p.1 - 1 ≤ q.2) := by
  unfold Normal
  rw [NormFrom.snoc]
  constructor
  · rintro ⟨a, b, c, d, e⟩
    refine ⟨a, b, c, d, fun q hq => ?_⟩
    have := e q (List.mem_of_getLast? hq)
    omega
  · rintro ⟨a, b, c, d, e⟩
    refine ⟨a, b, c, d, fun q hq => ?_⟩
    rcases List.eq_nil_or_concat out with rfl | ⟨M, t, rfl⟩
    · simp at hq
    · rw [List.concat_eq_append] at *
      have h1 := e t (by simp)
      rcases List.mem_append.1 hq with h | h
      · have h2 := (NormFrom.snoc.1 a).2.2.2.2 q h
        have h3 := (NormFrom.snoc.1 a).2.2.1
        omega
      · simp at h; subst h; omega
theorem normal_take {l : List Rg} (h : Normal l) (k : Nat) : Normal (l.take k) := by
  have h' := h
  rw [← List.take_append_drop k l] at h'
  have : ∀ {x y : List Rg} {lo : Int}, NormFrom lo (x ++ y) → NormFrom lo x := by
    intro x
    induction x with
    | nil => intros; trivial
    | cons r x ih => intro y lo hh; exact ⟨hh.1, hh.2.1, hh.2.2.1, ih hh.2.2.2⟩
  exact this h'
end Go.Proofs.Ytkhiogcdamjocaa
