/-
  PLAIN LAWS OF THE OTHER WORDS ON SETS. No program.
-/
import Derived.Test.YtkhiogcdamjocaaPl
namespace Go.Proofs.Ytkhiogcdamjocaa

theorem NormFrom.len : ∀ {L : List Rg} {lo : Int}, lo ≤ 202 → NormFrom lo L → (L.length : Int) * 2 ≤ 202 - lo
  | [], lo, h, _ => by simp; omega
  | r :: rs, lo, h, ⟨h1, h2, h3, h4⟩ => by
    have := NormFrom.len (L := rs) (lo := r.2 + 2) (by omega) h4
    simp only [List.length_cons]; omega
theorem normal_len {L : List Rg} (h : Normal L) : L.length ≤ 201 := by
  have := NormFrom.len (by decide) h; omega
theorem canon_len (S : Int → Bool) : (canon S).length ≤ 201 := normal_len (canon_normal S)
theorem norm_len (rs : List Rg) : (norm rs).length ≤ 201 := canon_len _
theorem norm_normal (rs : List Rg) : Normal (norm rs) := canon_normal _
theorem NormFrom.bounds : ∀ {L : List Rg} {lo : Int}, NormFrom lo L → ∀ p ∈ L, lo ≤ p.1 ∧ p.1 ≤ p.2 ∧ p.2 ≤ 200
  | [], _, _, p, hp => by simp at hp
  | r :: L, lo, ⟨h1, h2, h3, h4⟩, p, hp => by
    rcases List.mem_cons.1 hp with rfl | hp
    · exact ⟨h1, h2, h3⟩
    · have := NormFrom.bounds h4 p hp; omega
theorem NormFrom.drop1 {r : Rg} {L : List Rg} {lo : Int} (h : NormFrom lo (r :: L)) : NormFrom (r.2 + 2) L := h.2.2.2
theorem norm_bounds (rs : List Rg) : ∀ p ∈ norm rs, -200 ≤ p.1 ∧ p.1 ≤ p.2 ∧ p.2 ≤ 200 := (norm_normal rs).bounds
theorem norm_of_normal {l : List Rg} (h : Normal l) : norm l = l := canon_self h
theorem norm_canon (S : Int → Bool) : norm (canon S) = canon S := canon_self (canon_normal S)
theorem norm_append (a b : List Rg) : norm (a ++ b) = joinL a b := by unfold norm joinL; congr 1; funext n; rw [memL_append]

/-! ### the meeting of two normal lists -/
def meetM : List Rg → List Rg → List Rg
  | [], _ => []
  | _ :: _, [] => []
  | r :: x, s :: y =>
    (if max r.1 s.1 ≤ min r.2 s.2 then [(max r.1 s.1, min r.2 s.2)] else []) ++ (if r.2 < s.2 then meetM x (s :: y) else meetM (r :: x) y)
termination_by x y => x.length + y.length
theorem meetM_nil (y : List Rg) : meetM [] y = [] := by unfold meetM; rfl
theorem meetM_nil2 (x : List Rg) : meetM x [] = [] := by cases x <;> (unfold meetM; rfl)
theorem meetM_cons (r s : Rg) (x y : List Rg) : meetM (r :: x) (s :: y) = (if max r.1 s.1 ≤ min r.2 s.2 then [(max r.1 s.1, min r.2 s.2)] else []) ++ (if r.2 < s.2 then meetM x (s :: y) else meetM (r :: x) y) := by
  rw [meetM]
theorem meetM_ok : ∀ (m : Nat) (x y : List Rg) (lx ly : Int), x.length + y.length ≤ m → NormFrom lx x → NormFrom ly y →
    NormFrom (max lx ly) (meetM x y) ∧ ∀ n, memL (meetM x y) n = (memL x n && memL y n)
  | _, [], y, lx, ly, _, hx, hy => by rw [meetM_nil]; exact ⟨trivial, fun n => by simp [memL_nil]⟩
  | _, r :: x, [], lx, ly, _, hx, hy => by rw [meetM_nil2]; exact ⟨trivial, fun n => by simp [memL_nil]⟩
  | 0, r :: x, s :: y, lx, ly, hm, hx, hy => by simp at hm
  | m + 1, r :: x, s :: y, lx, ly, hm, hx, hy => by
    have hx0 := hx
    have hy0 := hy
    obtain ⟨a1, a2, a3, a4⟩ := hx
    obtain ⟨b1, b2, b3, b4⟩ := hy
    simp only [List.length_cons] at hm
    rw [meetM_cons]
    by_cases hlt : r.2 < s.2
    · rw [if_pos hlt]
      obtain ⟨c, d⟩ := meetM_ok m x (s :: y) (r.2 + 2) ly (by simp; omega) a4 hy0
      constructor
      · split
        · exact ⟨by dsimp only; omega, by dsimp only; omega, by dsimp only; omega, c.mono (by dsimp only; omega)⟩
        · exact c.mono (by omega)
      · intro n
        rw [memL_append, d, memL_cons r x, memL_cons s y]
        have e : memL (if max r.1 s.1 ≤ min r.2 s.2 then [(max r.1 s.1, min r.2 s.2)] else []) n = ((decide (r.1 ≤ n) && decide (n ≤ r.2)) && (decide (s.1 ≤ n) && decide (n ≤ s.2))) := by
          rw [Bool.eq_iff_iff]
          split <;> simp [memL_cons, memL_nil] <;> omega
        rw [e]
        by_cases hn : n ≤ r.2
        · rw [memL_low (n := n) (lo := r.2 + 2) (by omega) a4, memL_low (n := n) (lo := s.2 + 2) (by omega) b4]
          simp
        · simp [hn]
    · rw [if_neg hlt]
      obtain ⟨c, d⟩ := meetM_ok m (r :: x) y lx (s.2 + 2) (by simp; omega) hx0 b4
      constructor
      · split
        · exact ⟨by dsimp only; omega, by dsimp only; omega, by dsimp only; omega, c.mono (by dsimp only; omega)⟩
        · exact c.mono (by omega)
      · intro n
        rw [memL_append, d, memL_cons r x, memL_cons s y]
        have e : memL (if max r.1 s.1 ≤ min r.2 s.2 then [(max r.1 s.1, min r.2 s.2)] else []) n = ((decide (r.1 ≤ n) && decide (n ≤ r.2)) && (decide (s.1 ≤ n) && decide (n ≤ s.2))) := by
          rw [Bool.eq_iff_iff]
          split <;> simp [memL_cons, memL_nil] <;> omega
        rw [e]
        by_cases hn : n ≤ s.2
        · rw [memL_low (n := n) (lo := s.2 + 2) (by omega) b4]
          by_cases hn2 : n ≤ r.2
          · rw [memL_low (n := n) (lo := r.2 + 2) (by omega) a4]; simp
          · omega
        · simp [hn]
theorem meetM_norm (a b : List Rg) : meetM (norm a) (norm b) = meetL a b := by
  obtain ⟨c, d⟩ := meetM_ok _ (norm a) (norm b) (-200) (-200) (Nat.le_refl _) (norm_normal a) (norm_normal b)
  refine is_canon (c.mono (by decide)) (fun n h1 h2 => ?_)
  rw [d, memL_norm, memL_norm]; simp [inD, h1, h2]

/-! ### what is left -/
def complW (from' : Int) : List Rg → List Rg
  | [] => if from' ≤ 200 then [(from', 200)] else []
  | r :: l => (if from' < r.1 then [(from', r.1 - 1)] else []) ++ complW (r.2 + 1) l
theorem complW_ok : ∀ (l : List Rg) (f : Int), -200 ≤ f → NormFrom f l → NormFrom f (complW f l) ∧ ∀ n, n ≤ 200 → memL (complW f l) n = (decide (f ≤ n) && !memL l n)
  | [], f, hf, _ => by
    unfold complW
    split
    · exact ⟨⟨Int.le_refl _, by assumption, Int.le_refl _, trivial⟩, fun n hn => by simp [memL_cons, memL_nil, hn]⟩
    · exact ⟨trivial, fun n hn => by simp [memL_nil]; omega⟩
  | r :: l, f, hf, ⟨h1, h2, h3, h4⟩ => by
    obtain ⟨a, b⟩ := complW_ok l (r.2 + 1) (by omega) (h4.mono (by omega))
    unfold complW
    constructor
    · split
      · exact ⟨Int.le_refl _, by dsimp only; omega, by dsimp only; omega, a.mono (by dsimp only; omega)⟩
      · exact a.mono (by omega)
    · intro n hn
      rw [memL_append, b n hn, memL_cons]
      by_cases hlow : n ≤ r.2
      · rw [memL_low (n := n) (lo := r.2 + 2) (by omega) h4, Bool.eq_iff_iff]
        split <;> simp [memL_cons, memL_nil] <;> omega
      · generalize memL l n = q
        cases q <;> rw [Bool.eq_iff_iff] <;> split <;> simp [memL_cons, memL_nil] <;> omega
theorem complW_norm (a : List Rg) : complW (-200) (norm a) = complL a := by
  obtain ⟨c, d⟩ := complW_ok (norm a) (-200) (by decide) (norm_normal a)
  refine is_canon c (fun n h1 h2 => ?_)
  rw [d n h2, memL_norm]; simp [inD, h1, h2]

/-- how many -/
def sizeL : List Rg → Int
  | [] => 0
  | r :: l => (r.2 - r.1 + 1) + sizeL l
def cnt (S : Int → Bool) : Nat → Int → Int
  | 0, _ => 0
  | k + 1, n => (if S n = true then 1 else 0) + cnt S k (n + 1)
theorem sizeL_canonFrom (S : Int → Bool) : ∀ (k : Nat) (n : Int), sizeL (canonFrom S k n) = cnt S k n
  | 0, _ => rfl
  | k + 1, n => by
    have ih := sizeL_canonFrom S k (n + 1)
    unfold canonFrom cnt
    by_cases hS : S n = true
    · rw [if_pos hS, if_pos hS, ← ih]
      cases hc : canonFrom S k (n + 1) with
      | nil => simp [sizeL]
      | cons r t =>
        dsimp only
        split <;> simp only [sizeL] <;> omega
    · rw [if_neg hS, if_neg hS, ih]; omega
theorem sizeL_canon (S : Int → Bool) : sizeL (canon S) = cnt S 401 (-200) := sizeL_canonFrom S 401 (-200)
theorem cnt_nonneg (S : Int → Bool) : ∀ (k : Nat) (n : Int), 0 ≤ cnt S k n ∧ cnt S k n ≤ k
  | 0, _ => ⟨Int.le_refl _, Int.le_refl _⟩
  | k + 1, n => by have := cnt_nonneg S k (n + 1); unfold cnt; split <;> omega
theorem cnt_join (S T : Int → Bool) : ∀ (k : Nat) (n : Int), cnt (fun m => S m || T m) k n + cnt (fun m => S m && T m) k n = cnt S k n + cnt T k n
  | 0, _ => rfl
  | k + 1, n => by
    have := cnt_join S T k (n + 1)
    simp only [cnt]
    by_cases hS : S n = true <;> by_cases hT : T n = true <;> simp [hS, hT] <;> omega
theorem sizeL_append (a b : List Rg) : sizeL (a ++ b) = sizeL a + sizeL b := by
  induction a with
  | nil => simp [sizeL]
  | cons r a ih => simp only [List.cons_append, sizeL, ih]; omega

/-- which is at a place -/
def atL : List Rg → Int → Option Int
  | [], _ => none
  | r :: l, i => if i ≥ r.2 - r.1 + 1 then atL l (i - (r.2 - r.1 + 1)) else some (r.1 + i)
def seek (S : Int → Bool) : Nat → Int → Int → Option Int
  | 0, _, _ => none
  | k + 1, n, i => if S n = true then (if i = 0 then some n else seek S k (n + 1) (i - 1)) else seek S k (n + 1) i
theorem atL_canonFrom (S : Int → Bool) : ∀ (k : Nat) (n i : Int), n + k = 201 → 0 ≤ i → atL (canonFrom S k n) i = seek S k n i
  | 0, _, _, _, _ => rfl
  | k + 1, n, i, hk, hi => by
    unfold canonFrom seek
    have hn := canonFrom_normal S k (n + 1) (by omega)
    by_cases hS : S n = true
    · rw [if_pos hS, if_pos hS]
      by_cases h0 : i = 0
      · subst h0
        rw [if_pos rfl]
        cases hc : canonFrom S k (n + 1) with
        | nil => simp [atL]
        | cons r t =>
          rw [hc] at hn
          have := hn.2.1
          have := hn.1
          dsimp only
          split
          · simp only [atL]; rw [if_neg (by omega)]; simp
          · simp [atL]
      · rw [if_neg h0, ← atL_canonFrom S k (n + 1) (i - 1) (by omega) (by omega)]
        cases hc : canonFrom S k (n + 1) with
        | nil => simp [atL]; omega
        | cons r t =>
          rw [hc] at hn
          dsimp only
          split
          · next he =>
            simp only [atL]
            by_cases hc : i ≥ r.2 - n + 1
            · rw [if_pos hc, if_pos (by omega)]; congr 1; omega
            · rw [if_neg hc, if_neg (by omega)]; congr 1; omega
          · rw [atL]; dsimp only; rw [if_pos (by omega)]; congr 1; omega
    · rw [if_neg hS, if_neg hS]; exact atL_canonFrom S k (n + 1) i (by omega) hi
theorem atL_canon (S : Int → Bool) (i : Int) (hi : 0 ≤ i) : atL (canon S) i = seek S 401 (-200) i := atL_canonFrom S 401 (-200) i (by decide) hi

/-- the ends -/
def endsL (l : List Rg) : Int × Int × Bool :=
  match l with
  | [] => (0, 0, false)
  | r :: t => (r.1, ((r :: t).getLast (by simp)).2, true)
end Go.Proofs.Ytkhiogcdamjocaa
