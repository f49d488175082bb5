/-
  SETS OF INTEGERS FROM -200 TO 200 AS NORMAL LISTS OF RANGES. Plain: no program.
-/
namespace Go.Proofs.Ytkhiogcdamjocaa

abbrev Rg := Int × Int
/-- does a list of ranges have n? -/
def memL (rs : List Rg) (n : Int) : Bool := rs.any fun r => decide (r.1 ≤ n) && decide (n ≤ r.2)
/-- normal, from lo on -/
def NormFrom (lo : Int) : List Rg → Prop
  | [] => True
  | r :: rs => lo ≤ r.1 ∧ r.1 ≤ r.2 ∧ r.2 ≤ 200 ∧ NormFrom (r.2 + 2) rs
def Normal (rs : List Rg) : Prop := NormFrom (-200) rs

theorem memL_cons (r : Rg) (rs : List Rg) (n : Int) : memL (r :: rs) n = ((decide (r.1 ≤ n) && decide (n ≤ r.2)) || memL rs n) := rfl
theorem memL_nil (n : Int) : memL [] n = false := rfl
theorem memL_append (a b : List Rg) (n : Int) : memL (a ++ b) n = (memL a n || memL b n) := List.any_append
theorem NormFrom.mono {lo lo' : Int} (h : lo' ≤ lo) : ∀ {rs : List Rg}, NormFrom lo rs → NormFrom lo' rs
  | [], _ => trivial
  | _ :: _, ⟨h1, h2, h3, h4⟩ => ⟨by omega, h2, h3, h4⟩
theorem memL_low {lo n : Int} (h : n < lo) : ∀ {rs : List Rg}, NormFrom lo rs → memL rs n = false
  | [], _ => rfl
  | r :: rs, ⟨h1, h2, h3, h4⟩ => by
    rw [memL_cons, memL_low (lo := r.2 + 2) (by omega) h4]
    simp; omega
theorem memL_high {lo n : Int} (h : 200 < n) : ∀ {rs : List Rg}, NormFrom lo rs → memL rs n = false
  | [], _ => rfl
  | r :: rs, ⟨h1, h2, h3, h4⟩ => by
    rw [memL_cons, memL_high h h4]
    simp; omega
theorem memL_bounds {rs : List Rg} (h : Normal rs) {n : Int} (hm : memL rs n = true) : -200 ≤ n ∧ n ≤ 200 := by
  constructor
  · rcases (show n < (-200) ∨ (-200) ≤ n by omega) with h1 | h1
    · rw [memL_low h1 h] at hm; cases hm
    · exact h1
  · rcases (show 200 < n ∨ n ≤ 200 by omega) with h1 | h1
    · rw [memL_high h1 h] at hm; cases hm
    · exact h1

/-- NORMAL LISTS OF ONE SET ARE ONE -/
theorem normal_unique : ∀ {as bs : List Rg} {lo : Int}, NormFrom lo as → NormFrom lo bs → (∀ n, memL as n = memL bs n) → as = bs
  | [], [], _, _, _, _ => rfl
  | [], r :: bs, lo, _, ⟨h1, h2, _, _⟩, h => by
    have := h r.1
    rw [memL_nil, memL_cons] at this
    simp [h2] at this
  | r :: as, [], lo, ⟨h1, h2, _, _⟩, _, h => by
    have := h r.1
    rw [memL_nil, memL_cons] at this
    simp [h2] at this
  | r :: as, s :: bs, lo, ⟨h1, h2, h3, h4⟩, ⟨g1, g2, g3, g4⟩, h => by
    have e1 : r.1 = s.1 := by
      rcases Int.lt_trichotomy r.1 s.1 with hl | hl | hl
      · have := h r.1
        rw [memL_cons, memL_cons, memL_low (n := r.1) (lo := s.2 + 2) (by omega) g4] at this
        simp [h2] at this; omega
      · exact hl
      · have := h s.1
        rw [memL_cons, memL_cons, memL_low (n := s.1) (lo := r.2 + 2) (by omega) h4] at this
        simp [g2] at this; omega
    have e2 : r.2 = s.2 := by
      rcases Int.lt_trichotomy r.2 s.2 with hl | hl | hl
      · have := h (r.2 + 1)
        rw [memL_cons, memL_cons, memL_low (n := r.2 + 1) (lo := r.2 + 2) (by omega) h4] at this
        have a1 : decide (r.2 + 1 ≤ r.2) = false := by simp; omega
        have a2 : decide (s.1 ≤ r.2 + 1) = true := by simp; omega
        have a3 : decide (r.2 + 1 ≤ s.2) = true := by simp; omega
        simp [a1, a2, a3] at this
      · exact hl
      · have := h (s.2 + 1)
        rw [memL_cons, memL_cons, memL_low (n := s.2 + 1) (lo := s.2 + 2) (by omega) g4] at this
        have a1 : decide (s.2 + 1 ≤ s.2) = false := by simp; omega
        have a2 : decide (r.1 ≤ s.2 + 1) = true := by simp; omega
        have a3 : decide (s.2 + 1 ≤ r.2) = true := by simp; omega
        simp [a1, a2, a3] at this
    have e : r = s := Prod.ext e1 e2
    subst e
    have ht : as = bs := normal_unique h4 g4 (fun n => by
      have := h n
      rw [memL_cons, memL_cons] at this
      by_cases hn : n ≤ r.2
      · rw [memL_low (n := n) (lo := r.2 + 2) (by omega) h4, memL_low (n := n) (lo := r.2 + 2) (by omega) g4]
      · have a1 : decide (n ≤ r.2) = false := by simpa using hn
        simpa [a1] using this)
    rw [ht]

/-- the normal list of a set, from n on, so many integers -/
def canonFrom (S : Int → Bool) : Nat → Int → List Rg
  | 0, _ => []
  | k + 1, n => if S n = true then
      (match canonFrom S k (n + 1) with
       | r :: t => if r.1 = n + 1 then (n, r.2) :: t else (n, n) :: r :: t
       | [] => [(n, n)])
    else canonFrom S k (n + 1)
/-- THE NORMAL LIST OF A SET -/
def canon (S : Int → Bool) : List Rg := canonFrom S 401 (-200)

theorem canonFrom_normal (S : Int → Bool) : ∀ (k : Nat) (n : Int), n + k = 201 → NormFrom n (canonFrom S k n)
  | 0, _, _ => trivial
  | k + 1, n, h => by
    have ih := canonFrom_normal S k (n + 1) (by omega)
    unfold canonFrom
    split
    · cases hc : canonFrom S k (n + 1) with
      | nil => exact ⟨Int.le_refl _, Int.le_refl _, by dsimp only; omega, trivial⟩
      | cons r t =>
        rw [hc] at ih
        obtain ⟨h1, h2, h3, h4⟩ := ih
        dsimp only
        split
        · exact ⟨Int.le_refl _, by dsimp only; omega, h3, h4⟩
        · refine ⟨Int.le_refl _, Int.le_refl _, by dsimp only; omega, ?_, h2, h3, h4⟩
          dsimp only; omega
    · exact ih.mono (by omega)
theorem canonFrom_mem (S : Int → Bool) : ∀ (k : Nat) (n m : Int), n + k = 201 → memL (canonFrom S k n) m = (decide (n ≤ m) && decide (m ≤ 200) && S m)
  | 0, n, m, h => by
    rw [canonFrom, memL_nil]
    have : (decide (n ≤ m) && decide (m ≤ 200)) = false := by simp; omega
    rw [this]; rfl
  | k + 1, n, m, h => by
    have ih := canonFrom_mem S k (n + 1) m (by omega)
    have hn := canonFrom_normal S k (n + 1) (by omega)
    unfold canonFrom
    by_cases hS : S n = true
    · rw [if_pos hS]
      have goal : ∀ L : List Rg, memL L m = (decide (m = n) || memL (canonFrom S k (n + 1)) m) → memL L m = (decide (n ≤ m) && decide (m ≤ 200) && S m) := by
        intro L hL
        rw [hL, ih]
        by_cases e : m = n
        · subst e; simp [hS]; omega
        · have a1 : decide (n + 1 ≤ m) = decide (n ≤ m) := by simp; omega
          simp [e, a1]
      cases hc : canonFrom S k (n + 1) with
      | nil =>
        apply goal
        rw [hc, memL_nil]
        simp only [memL_cons, memL_nil]
        rw [Bool.eq_iff_iff]; simp; omega
      | cons r t =>
        rw [hc] at hn
        obtain ⟨h1, h2, h3, h4⟩ := hn
        dsimp only
        split
        · apply goal
          rw [hc, memL_cons, memL_cons]
          rw [← Bool.or_assoc]; congr 1
          rw [Bool.eq_iff_iff]; simp; omega
        · apply goal
          rw [hc, memL_cons]; congr 1
          rw [Bool.eq_iff_iff]; simp; omega
    · rw [if_neg hS, ih]
      by_cases e : m = n
      · subst e
        have : S m = false := by simpa using hS
        simp [this]
      · have a1 : decide (n + 1 ≤ m) = decide (n ≤ m) := by simp; omega
        rw [a1]
theorem canon_normal (S : Int → Bool) : Normal (canon S) := canonFrom_normal S 401 (-200) (by decide)
theorem canon_mem (S : Int → Bool) (m : Int) : memL (canon S) m = (decide (-200 ≤ m) && decide (m ≤ 200) && S m) := canonFrom_mem S 401 (-200) m (by decide)

/-- what is normal and has just these is the normal list -/
theorem is_canon {rs : List Rg} {S : Int → Bool} (h : Normal rs) (hm : ∀ n, -200 ≤ n → n ≤ 200 → memL rs n = S n) : rs = canon S := by
  refine normal_unique h (canon_normal S) (fun n => ?_)
  rw [canon_mem]
  by_cases h1 : -200 ≤ n
  · by_cases h2 : n ≤ 200
    · simp [h1, h2, hm n h1 h2]
    · rw [memL_high (n := n) (by omega) h]; simp [h2]
  · rw [memL_low (n := n) (lo := -200) (by omega) h]; simp [h1]
theorem canon_congr {S T : Int → Bool} (h : ∀ n, -200 ≤ n → n ≤ 200 → S n = T n) : canon S = canon T :=
  is_canon (canon_normal S) (fun n h1 h2 => by rw [canon_mem]; simp [h1, h2, h n h1 h2])
theorem canon_self {rs : List Rg} (h : Normal rs) : canon (memL rs) = rs := (is_canon h (fun _ _ _ => rfl)).symm

/-- the set of a list -/
def norm (rs : List Rg) : List Rg := canon (memL rs)
def meetL (a b : List Rg) : List Rg := canon fun n => memL a n && memL b n
def joinL (a b : List Rg) : List Rg := canon fun n => memL a n || memL b n
def minusL (a b : List Rg) : List Rg := canon fun n => memL a n && !memL b n
def complL (a : List Rg) : List Rg := canon fun n => !memL a n
/-- n is within the ends -/
def inD (n : Int) : Bool := decide (-200 ≤ n) && decide (n ≤ 200)
theorem memL_norm (rs : List Rg) (n : Int) : memL (norm rs) n = (inD n && memL rs n) := canon_mem _ _
theorem norm_norm (rs : List Rg) : norm (norm rs) = norm rs := canon_self (canon_normal _)
theorem canon_of_norm {S : Int → Bool} {a : List Rg} (f : (Int → Bool) → Int → Bool) (hf : ∀ X Y n, X n = Y n → f X n = f Y n) : canon (f (memL (norm a))) = canon (f (memL a)) :=
  canon_congr fun n h1 h2 => hf _ _ _ (by rw [memL_norm]; simp [inD, h1, h2])
end Go.Proofs.Ytkhiogcdamjocaa
