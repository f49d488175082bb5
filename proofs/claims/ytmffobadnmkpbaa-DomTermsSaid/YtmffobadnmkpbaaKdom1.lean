/-
  SETS OF INTEGERS FROM -200 TO 200 AS NORMAL LISTS OF RANGES. Plain: no program.
  NORM'S PLAIN LAW: clamp each range, sort by the lower ends, melt what meets: the normal list. No program.
  PLAIN LAWS OF THE OTHER WORDS ON SETS. No program.
  LISTS OF RANGES IN MEMORY.
  '!=' at ranges.
  PLAIN LAW of going through all integers one by one. No program.
  A LIST OF RANGES THAT COMES IN.
-/
import Derived.Test.YtmffobadnmkpbaaRows
import Derived.Test.YtmffobadnmkpbaaKlib2
import Derived.Laws.StructEq
import Derived.Test.YtmffobadnmkpbaaKlib1
import Derived.Lib.SmallJoins
namespace Go.Proofs.Ytmffobadnmkpbaa

abbrev Rg := Int × Int
/-- does a list of ranges have n? -/
def memL (rs : List Rg) (n : Int) : Bool := rs.any fun r => decide (r.1 ≤ n) && decide (n ≤ r.2)
/-- normal, from lo on -/
def NormFrom (lo : Int) : List Rg → Prop
  | [] => True
  | r :: rs => lo ≤ r.1 ∧ r.1 ≤ r.2 ∧ r.2 ≤ 200 ∧ NormFrom (r.2 + 2) rs
def Normal (rs : List Rg) : Prop := NormFrom (-200) rs

theorem memL_cons (r : Rg) (rs : List Rg) (n : Int) : memL (r :: rs) n = ((decide (r.1 ≤ n) && decide (n ≤ r.2)) || memL rs n) := rfl
theorem memL_nil (n : Int) : memL [] n = false := rfl
theorem memL_append (a b : List Rg) (n : Int) : memL (a ++ b) n = (memL a n || memL b n) := List.any_append
theorem NormFrom.mono {lo lo' : Int} (h : lo' ≤ lo) : ∀ {rs : List Rg}, NormFrom lo rs → NormFrom lo' rs
  | [], _ => trivial
  | _ :: _, ⟨h1, h2, h3, h4⟩ => ⟨by omega, h2, h3, h4⟩
theorem memL_low {lo n : Int} (h : n < lo) : ∀ {rs : List Rg}, NormFrom lo rs → memL rs n = false
  | [], _ => rfl
  | r :: rs, ⟨h1, h2, h3, h4⟩ => by
    rw [memL_cons, memL_low (lo := r.2 + 2) (by omega) h4]
    simp; omega
theorem memL_high {lo n : Int} (h : 200 < n) : ∀ {rs : List Rg}, NormFrom lo rs → memL rs n = false
  | [], _ => rfl
  | r :: rs, ⟨h1, h2, h3, h4⟩ => by
    rw [memL_cons, memL_high h h4]
    simp; omega
theorem memL_bounds {rs : List Rg} (h : Normal rs) {n : Int} (hm : memL rs n = true) : -200 ≤ n ∧ n ≤ 200 := by
  constructor
  · rcases (show n < (-200) ∨ (-200) ≤ n by omega) with h1 | h1
    · rw [memL_low h1 h] at hm; cases hm
    · exact h1
  · rcases (show 200 < n ∨ n ≤ 200 by omega) with h1 | h1
    · rw [memL_high h1 h] at hm; cases hm
    · exact h1

/-- NORMAL LISTS OF ONE SET ARE ONE -/
theorem normal_unique : ∀ {as0 bs : List Rg} {lo : Int}, NormFrom lo as0 → NormFrom lo bs → (∀ n, memL as0 n = memL bs n) → as0 = bs
  | [], [], _, _, _, _ => rfl
  | [], r :: bs, lo, _, ⟨h1, h2, _, _⟩, h => by
    have := h r.1
    rw [memL_nil, memL_cons] at this
    simp [h2] at this
  | r :: as0, [], lo, ⟨h1, h2, _, _⟩, _, h => by
    have := h r.1
    rw [memL_nil, memL_cons] at this
    simp [h2] at this
  | r :: as0, s :: bs, lo, ⟨h1, h2, h3, h4⟩, ⟨g1, g2, g3, g4⟩, h => by
    have e1 : r.1 = s.1 := by
      rcases Int.lt_trichotomy r.1 s.1 with hl | hl | hl
      · have := h r.1
        rw [memL_cons, memL_cons, memL_low (n := r.1) (lo := s.2 + 2) (by omega) g4] at this
        simp [h2] at this; omega
      · exact hl
      · have := h s.1
        rw [memL_cons, memL_cons, memL_low (n := s.1) (lo := r.2 + 2) (by omega) h4] at this
        simp [g2] at this; omega
    have e2 : r.2 = s.2 := by
      rcases Int.lt_trichotomy r.2 s.2 with hl | hl | hl
      · have := h (r.2 + 1)
        rw [memL_cons, memL_cons, memL_low (n := r.2 + 1) (lo := r.2 + 2) (by omega) h4] at this
        have a1 : decide (r.2 + 1 ≤ r.2) = false := by simp; omega
        have a2 : decide (s.1 ≤ r.2 + 1) = true := by simp; omega
        have a3 : decide (r.2 + 1 ≤ s.2) = true := by simp; omega
        simp [a1, a2, a3] at this
      · exact hl
      · have := h (s.2 + 1)
        rw [memL_cons, memL_cons, memL_low (n := s.2 + 1) (lo := s.2 + 2) (by omega) g4] at this
        have a1 : decide (s.2 + 1 ≤ s.2) = false := by simp; omega
        have a2 : decide (r.1 ≤ s.2 + 1) = true := by simp; omega
        have a3 : decide (s.2 + 1 ≤ r.2) = true := by simp; omega
        simp [a1, a2, a3] at this
    have e : r = s := Prod.ext e1 e2
    subst e
    have ht : as0 = bs := normal_unique h4 g4 (fun n => by
      have := h n
      rw [memL_cons, memL_cons] at this
      by_cases hn : n ≤ r.2
      · rw [memL_low (n := n) (lo := r.2 + 2) (by omega) h4, memL_low (n := n) (lo := r.2 + 2) (by omega) g4]
      · have a1 : decide (n ≤ r.2) = false := by simpa using hn
        simpa [a1] using this)
    rw [ht]

/-- the normal list of a set, from n on, so many integers -/
def canonFrom (S : Int → Bool) : Nat → Int → List Rg
  | 0, _ => []
  | k + 1, n => if S n = true then
      (match canonFrom S k (n + 1) with
       | r :: t => if r.1 = n + 1 then (n, r.2) :: t else (n, n) :: r :: t
       | [] => [(n, n)])
    else canonFrom S k (n + 1)
/-- THE NORMAL LIST OF A SET -/
def canon (S : Int → Bool) : List Rg := canonFrom S 401 (-200)

theorem canonFrom_normal (S : Int → Bool) : ∀ (k : Nat) (n : Int), n + k = 201 → NormFrom n (canonFrom S k n)
  | 0, _, _ => trivial
  | k + 1, n, h => by
    have ih := canonFrom_normal S k (n + 1) (by omega)
    unfold canonFrom
    split
    · cases hc : canonFrom S k (n + 1) with
      | nil => exact ⟨Int.le_refl _, Int.le_refl _, by dsimp only; omega, trivial⟩
      | cons r t =>
        rw [hc] at ih
        obtain ⟨h1, h2, h3, h4⟩ := ih
        dsimp only
        split
        · exact ⟨Int.le_refl _, by dsimp only; omega, h3, h4⟩
        · refine ⟨Int.le_refl _, Int.le_refl _, by dsimp only; omega, ?_, h2, h3, h4⟩
          dsimp only; omega
    · exact ih.mono (by omega)
theorem canonFrom_mem (S : Int → Bool) : ∀ (k : Nat) (n m : Int), n + k = 201 → memL (canonFrom S k n) m = (decide (n ≤ m) && decide (m ≤ 200) && S m)
  | 0, n, m, h => by
    rw [canonFrom, memL_nil]
    have : (decide (n ≤ m) && decide (m ≤ 200)) = false := by simp; omega
    rw [this]; rfl
  | k + 1, n, m, h => by
    have ih := canonFrom_mem S k (n + 1) m (by omega)
    have hn := canonFrom_normal S k (n + 1) (by omega)
    unfold canonFrom
    by_cases hS : S n = true
    · rw [if_pos hS]
      have goal : ∀ L : List Rg, memL L m = (decide (m = n) || memL (canonFrom S k (n + 1)) m) → memL L m = (decide (n ≤ m) && decide (m ≤ 200) && S m) := by
        intro L hL
        rw [hL, ih]
        by_cases e : m = n
        · subst e; simp [hS]; omega
        · have a1 : decide (n + 1 ≤ m) = decide (n ≤ m) := by simp; omega
          simp [e, a1]
      cases hc : canonFrom S k (n + 1) with
      | nil =>
        apply goal
        rw [hc, memL_nil]
        simp only [memL_cons, memL_nil]
        rw [Bool.eq_iff_iff]; simp; omega
      | cons r t =>
        rw [hc] at hn
        obtain ⟨h1, h2, h3, h4⟩ := hn
        dsimp only
        split
        · apply goal
          rw [hc, memL_cons, memL_cons]
          rw [← Bool.or_assoc]; congr 1
          rw [Bool.eq_iff_iff]; simp; omega
        · apply goal
          rw [hc, memL_cons]; congr 1
          rw [Bool.eq_iff_iff]; simp; omega
    · rw [if_neg hS, ih]
      by_cases e : m = n
      · subst e
        have : S m = false := by simpa using hS
        simp [this]
      · have a1 : decide (n + 1 ≤ m) = decide (n ≤ m) := by simp; omega
        rw [a1]
theorem canon_normal (S : Int → Bool) : Normal (canon S) := canonFrom_normal S 401 (-200) (by decide)
theorem canon_mem (S : Int → Bool) (m : Int) : memL (canon S) m = (decide (-200 ≤ m) && decide (m ≤ 200) && S m) := canonFrom_mem S 401 (-200) m (by decide)

/-- what is normal and has just these is the normal list -/
theorem is_canon {rs : List Rg} {S : Int → Bool} (h : Normal rs) (hm : ∀ n, -200 ≤ n → n ≤ 200 → memL rs n = S n) : rs = canon S := by
  refine normal_unique h (canon_normal S) (fun n => ?_)
  rw [canon_mem]
  by_cases h1 : -200 ≤ n
  · by_cases h2 : n ≤ 200
    · simp [h1, h2, hm n h1 h2]
    · rw [memL_high (n := n) (by omega) h]; simp [h2]
  · rw [memL_low (n := n) (lo := -200) (by omega) h]; simp [h1]
theorem canon_congr {S T : Int → Bool} (h : ∀ n, -200 ≤ n → n ≤ 200 → S n = T n) : canon S = canon T :=
  is_canon (canon_normal S) (fun n h1 h2 => by rw [canon_mem]; simp [h1, h2, h n h1 h2])
theorem canon_self {rs : List Rg} (h : Normal rs) : canon (memL rs) = rs := (is_canon h (fun _ _ _ => rfl)).symm

/-- the set of a list -/
def norm (rs : List Rg) : List Rg := canon (memL rs)
def meetL (a b : List Rg) : List Rg := canon fun n => memL a n && memL b n
def joinL (a b : List Rg) : List Rg := canon fun n => memL a n || memL b n
def minusL (a b : List Rg) : List Rg := canon fun n => memL a n && !memL b n
def complL (a : List Rg) : List Rg := canon fun n => !memL a n
/-- n is within the ends -/
def inD (n : Int) : Bool := decide (-200 ≤ n) && decide (n ≤ 200)
theorem memL_norm (rs : List Rg) (n : Int) : memL (norm rs) n = (inD n && memL rs n) := canon_mem _ _
theorem norm_norm (rs : List Rg) : norm (norm rs) = norm rs := canon_self (canon_normal _)
theorem canon_of_norm {_S : Int → Bool} {a : List Rg} (f : (Int → Bool) → Int → Bool) (hf : ∀ X Y n, X n = Y n → f X n = f Y n) : canon (f (memL (norm a))) = canon (f (memL a)) :=
  canon_congr fun n h1 h2 => hf _ _ _ (by rw [memL_norm]; simp [inD, h1, h2])
end Go.Proofs.Ytmffobadnmkpbaa
namespace Go.Proofs.Ytmffobadnmkpbaa

def clampR (r : Rg) : Rg := (max r.1 (-200), min r.2 200)
def clampL (rs : List Rg) : List Rg := (rs.map clampR).filter fun r => decide (r.1 ≤ r.2)
theorem clampL_snoc (rs : List Rg) (r : Rg) : clampL (rs ++ [r]) = clampL rs ++ (if (clampR r).1 ≤ (clampR r).2 then [clampR r] else []) := by
  unfold clampL
  rw [List.map_append, List.filter_append]
  congr 1
  simp only [List.map_cons, List.map_nil, List.filter_cons, List.filter_nil]
  split <;> simp_all
theorem clampL_len (rs : List Rg) : (clampL rs).length ≤ rs.length := by
  unfold clampL; exact Nat.le_trans (List.length_filter_le _ _) (by simp)
theorem clampL_ok (rs : List Rg) : ∀ r ∈ clampL rs, -200 ≤ r.1 ∧ r.1 ≤ r.2 ∧ r.2 ≤ 200 := by
  intro r hr
  obtain ⟨h1, h2⟩ := List.mem_filter.1 hr
  obtain ⟨s, _, rfl⟩ := List.mem_map.1 h1
  simp only [decide_eq_true_eq] at h2
  simp only [clampR] at h2 ⊢
  omega
theorem memL_clampL (rs : List Rg) (n : Int) (h1 : -200 ≤ n) (h2 : n ≤ 200) : memL (clampL rs) n = memL rs n := by
  rw [Bool.eq_iff_iff]
  simp only [memL, List.any_eq_true, clampL, List.mem_filter, List.mem_map, Bool.and_eq_true, decide_eq_true_eq]
  constructor
  · rintro ⟨r, ⟨⟨s, hs, rfl⟩, _⟩, h3, h4⟩
    simp only [clampR] at h3 h4
    exact ⟨s, hs, by omega, by omega⟩
  · rintro ⟨s, hs, h3, h4⟩
    refine ⟨clampR s, ⟨⟨s, hs, rfl⟩, ?_⟩, ?_, ?_⟩ <;> simp only [clampR] <;> omega

/-- one range more -/
def pushR (out : List Rg) (r : Rg) : List Rg :=
  match out.getLast? with
  | none => out ++ [r]
  | some p => if r.1 ≤ p.2 + 1 then out.dropLast ++ [(p.1, max p.2 r.2)] else out ++ [r]
def mergeL (l : List Rg) : List Rg := l.foldl pushR []
theorem pushR_nil (r : Rg) : pushR [] r = [r] := rfl
theorem pushR_snoc (out : List Rg) (p r : Rg) : pushR (out ++ [p]) r = if r.1 ≤ p.2 + 1 then out ++ [(p.1, max p.2 r.2)] else out ++ [p] ++ [r] := by
  unfold pushR; simp
theorem mergeL_snoc (l : List Rg) (r : Rg) : mergeL (l ++ [r]) = pushR (mergeL l) r := by unfold mergeL; rw [List.foldl_append]; rfl

theorem pushR_len (out : List Rg) (r : Rg) : (pushR out r).length ≤ out.length + 1 := by
  rcases List.eq_nil_or_concat out with rfl | ⟨o, p, rfl⟩
  · exact Nat.le_refl _
  · rw [List.concat_eq_append, pushR_snoc]; split <;> simp
theorem mergeL_len (l : List Rg) : (mergeL l).length ≤ l.length := by
  have : ∀ (l o : List Rg), (l.foldl pushR o).length ≤ o.length + l.length := by
    intro l
    induction l with
    | nil => intro o; simp
    | cons r l ih => intro o; rw [List.foldl_cons]; have := ih (pushR o r); have := pushR_len o r; simp; omega
  simpa [mergeL] using this l []

/-- normal, with a last range that begins at hi's begin -/
theorem NormFrom.snoc {lo : Int} : ∀ {out : List Rg} {p : Rg}, NormFrom lo (out ++ [p]) ↔ NormFrom lo out ∧ lo ≤ p.1 ∧ p.1 ≤ p.2 ∧ p.2 ≤ 200 ∧ (∀ q ∈ out, q.2 + 2 ≤ p.1)
  | [], p => by simp [NormFrom]
  | r :: out, p => by
    simp only [List.cons_append, NormFrom, NormFrom.snoc (out := out) (p := p), List.mem_cons, forall_eq_or_imp]
    constructor
    · rintro ⟨a, b, c, d, e, f, g, h⟩; exact ⟨⟨a, b, c, d⟩, by omega, f, g, e, h⟩
    · rintro ⟨⟨a, b, c, d⟩, e, f, g, h, i⟩; exact ⟨a, b, c, d, h, f, g, i⟩
theorem pushR_ok (out : List Rg) (r : Rg) (ho : Normal out) (hr : -200 ≤ r.1 ∧ r.1 ≤ r.2 ∧ r.2 ≤ 200) (hs : ∀ p ∈ out, p.1 ≤ r.1) :
    Normal (pushR out r) ∧ (∀ n, memL (pushR out r) n = (memL out n || (decide (r.1 ≤ n) && decide (n ≤ r.2)))) ∧ ∀ p ∈ pushR out r, p.1 ≤ r.1 := by
  rcases List.eq_nil_or_concat out with rfl | ⟨o, p, rfl⟩
  · exact ⟨⟨hr.1, hr.2.1, hr.2.2, trivial⟩, fun n => by simp [pushR_nil, memL_cons, memL_nil], fun p hp => by simp [pushR_nil] at hp; subst hp; exact Int.le_refl _⟩
  · rw [List.concat_eq_append] at ho hs ⊢
    obtain ⟨n1, n2, n3, n4, n5⟩ := NormFrom.snoc.1 ho
    have hp := hs p (by simp)
    rw [pushR_snoc]
    split
    · next hc =>
      refine ⟨NormFrom.snoc.2 ⟨n1, n2, by dsimp only; omega, by dsimp only; omega, n5⟩, fun n => ?_, fun q hq => ?_⟩
      · rw [memL_append, memL_append, memL_cons, memL_cons, memL_nil, Bool.or_assoc]
        congr 1
        rw [Bool.eq_iff_iff]; simp; omega
      · rcases List.mem_append.1 hq with h | h
        · exact hs q (by simp [h])
        · simp at h; subst h; exact hp
    · next hc =>
      refine ⟨NormFrom.snoc.2 ⟨ho, hr.1, hr.2.1, hr.2.2, fun q hq => ?_⟩, fun n => by rw [memL_append]; simp [memL_cons, memL_nil], fun q hq => ?_⟩
      · rcases List.mem_append.1 hq with h | h
        · have := n5 q h; omega
        · simp at h; subst h; omega
      · rcases List.mem_append.1 hq with h | h
        · exact hs q h
        · simp at h; subst h; exact Int.le_refl _
theorem mergeL_ok (l : List Rg) (hok : ∀ r ∈ l, -200 ≤ r.1 ∧ r.1 ≤ r.2 ∧ r.2 ≤ 200) (hs : l.Pairwise fun a b => a.1 ≤ b.1) : Normal (mergeL l) ∧ ∀ n, memL (mergeL l) n = memL l n := by
  have key : ∀ (l o : List Rg), (∀ r ∈ l, -200 ≤ r.1 ∧ r.1 ≤ r.2 ∧ r.2 ≤ 200) → l.Pairwise (fun a b => a.1 ≤ b.1) → Normal o → (∀ p ∈ o, ∀ r ∈ l, p.1 ≤ r.1) →
      Normal (l.foldl pushR o) ∧ ∀ n, memL (l.foldl pushR o) n = (memL o n || memL l n) := by
    intro l
    induction l with
    | nil => intro o _ _ ho _; exact ⟨ho, fun n => by simp [memL_nil]⟩
    | cons r l ih =>
      intro o hok hs ho hb
      obtain ⟨s1, s2⟩ := List.pairwise_cons.1 hs
      obtain ⟨a, b, c⟩ := pushR_ok o r ho (hok r (by simp)) (fun p hp => hb p hp r (by simp))
      obtain ⟨d, e⟩ := ih (pushR o r) (fun x hx => hok x (by simp [hx])) s2 a (fun p hp x hx => by have := c p hp; have := s1 x hx; omega)
      exact ⟨d, fun n => by rw [List.foldl_cons, e, b, memL_cons, Bool.or_assoc]⟩
  obtain ⟨a, b⟩ := key l [] hok hs trivial (fun p hp => by simp at hp)
  exact ⟨a, fun n => by unfold mergeL; rw [b, memL_nil, Bool.false_or]⟩

/-- THE LAW: whatever order of the clamped ranges rises by the lower ends, what comes is the normal list -/
theorem mergeL_norm (rs l : List Rg) (hp : ∀ r, r ∈ l ↔ r ∈ clampL rs) (hs : l.Pairwise fun a b => a.1 ≤ b.1) : mergeL l = norm rs := by
  obtain ⟨a, b⟩ := mergeL_ok l (fun r hr => clampL_ok rs r ((hp r).1 hr)) hs
  refine is_canon a (fun n h1 h2 => ?_)
  rw [b, ← memL_clampL rs n h1 h2, Bool.eq_iff_iff]
  simp only [memL, List.any_eq_true, hp]
end Go.Proofs.Ytmffobadnmkpbaa
namespace Go.Proofs.Ytmffobadnmkpbaa

theorem NormFrom.len : ∀ {L : List Rg} {lo : Int}, lo ≤ 202 → NormFrom lo L → (L.length : Int) * 2 ≤ 202 - lo
  | [], lo, h, _ => by simp; omega
  | r :: rs, lo, h, ⟨h1, h2, h3, h4⟩ => by
    have := NormFrom.len (L := rs) (lo := r.2 + 2) (by omega) h4
    simp only [List.length_cons]; omega
theorem normal_len {L : List Rg} (h : Normal L) : L.length ≤ 201 := by
  have := NormFrom.len (by decide) h; omega
theorem canon_len (S : Int → Bool) : (canon S).length ≤ 201 := normal_len (canon_normal S)
theorem norm_len (rs : List Rg) : (norm rs).length ≤ 201 := canon_len _
theorem norm_normal (rs : List Rg) : Normal (norm rs) := canon_normal _
theorem NormFrom.bounds : ∀ {L : List Rg} {lo : Int}, NormFrom lo L → ∀ p ∈ L, lo ≤ p.1 ∧ p.1 ≤ p.2 ∧ p.2 ≤ 200
  | [], _, _, p, hp => by simp at hp
  | r :: L, lo, ⟨h1, h2, h3, h4⟩, p, hp => by
    rcases List.mem_cons.1 hp with rfl | hp
    · exact ⟨h1, h2, h3⟩
    · have := NormFrom.bounds h4 p hp; omega
theorem NormFrom.drop1 {r : Rg} {L : List Rg} {lo : Int} (h : NormFrom lo (r :: L)) : NormFrom (r.2 + 2) L := h.2.2.2
theorem norm_bounds (rs : List Rg) : ∀ p ∈ norm rs, -200 ≤ p.1 ∧ p.1 ≤ p.2 ∧ p.2 ≤ 200 := (norm_normal rs).bounds
theorem norm_of_normal {l : List Rg} (h : Normal l) : norm l = l := canon_self h
theorem norm_canon (S : Int → Bool) : norm (canon S) = canon S := canon_self (canon_normal S)
theorem norm_append (a b : List Rg) : norm (a ++ b) = joinL a b := by unfold norm joinL; congr 1; funext n; rw [memL_append]

/-! ### the meeting of two normal lists -/
def meetM : List Rg → List Rg → List Rg
  | [], _ => []
  | _ :: _, [] => []
  | r :: x, s :: y =>
    (if max r.1 s.1 ≤ min r.2 s.2 then [(max r.1 s.1, min r.2 s.2)] else []) ++ (if r.2 < s.2 then meetM x (s :: y) else meetM (r :: x) y)
termination_by x y => x.length + y.length
theorem meetM_nil (y : List Rg) : meetM [] y = [] := by unfold meetM; rfl
theorem meetM_nil2 (x : List Rg) : meetM x [] = [] := by cases x <;> (unfold meetM; rfl)
theorem meetM_cons (r s : Rg) (x y : List Rg) : meetM (r :: x) (s :: y) = (if max r.1 s.1 ≤ min r.2 s.2 then [(max r.1 s.1, min r.2 s.2)] else []) ++ (if r.2 < s.2 then meetM x (s :: y) else meetM (r :: x) y) := by
  rw [meetM]
theorem meetM_ok : ∀ (m : Nat) (x y : List Rg) (lx ly : Int), x.length + y.length ≤ m → NormFrom lx x → NormFrom ly y →
    NormFrom (max lx ly) (meetM x y) ∧ ∀ n, memL (meetM x y) n = (memL x n && memL y n)
  | _, [], y, lx, ly, _, hx, hy => by rw [meetM_nil]; exact ⟨trivial, fun n => by simp [memL_nil]⟩
  | _, r :: x, [], lx, ly, _, hx, hy => by rw [meetM_nil2]; exact ⟨trivial, fun n => by simp [memL_nil]⟩
  | 0, r :: x, s :: y, lx, ly, hm, hx, hy => by simp at hm
  | m + 1, r :: x, s :: y, lx, ly, hm, hx, hy => by
    have hx0 := hx
    have hy0 := hy
    obtain ⟨a1, a2, a3, a4⟩ := hx
    obtain ⟨b1, b2, b3, b4⟩ := hy
    simp only [List.length_cons] at hm
    rw [meetM_cons]
    by_cases hlt : r.2 < s.2
    · rw [if_pos hlt]
      obtain ⟨c, d⟩ := meetM_ok m x (s :: y) (r.2 + 2) ly (by simp; omega) a4 hy0
      constructor
      · split
        · exact ⟨by dsimp only; omega, by dsimp only; omega, by dsimp only; omega, c.mono (by dsimp only; omega)⟩
        · exact c.mono (by omega)
      · intro n
        rw [memL_append, d, memL_cons r x, memL_cons s y]
        have e : memL (if max r.1 s.1 ≤ min r.2 s.2 then [(max r.1 s.1, min r.2 s.2)] else []) n = ((decide (r.1 ≤ n) && decide (n ≤ r.2)) && (decide (s.1 ≤ n) && decide (n ≤ s.2))) := by
          rw [Bool.eq_iff_iff]
          split <;> simp [memL_cons, memL_nil] <;> omega
        rw [e]
        by_cases hn : n ≤ r.2
        · rw [memL_low (n := n) (lo := r.2 + 2) (by omega) a4, memL_low (n := n) (lo := s.2 + 2) (by omega) b4]
          simp
        · simp [hn]
    · rw [if_neg hlt]
      obtain ⟨c, d⟩ := meetM_ok m (r :: x) y lx (s.2 + 2) (by simp; omega) hx0 b4
      constructor
      · split
        · exact ⟨by dsimp only; omega, by dsimp only; omega, by dsimp only; omega, c.mono (by dsimp only; omega)⟩
        · exact c.mono (by omega)
      · intro n
        rw [memL_append, d, memL_cons r x, memL_cons s y]
        have e : memL (if max r.1 s.1 ≤ min r.2 s.2 then [(max r.1 s.1, min r.2 s.2)] else []) n = ((decide (r.1 ≤ n) && decide (n ≤ r.2)) && (decide (s.1 ≤ n) && decide (n ≤ s.2))) := by
          rw [Bool.eq_iff_iff]
          split <;> simp [memL_cons, memL_nil] <;> omega
        rw [e]
        by_cases hn : n ≤ s.2
        · rw [memL_low (n := n) (lo := s.2 + 2) (by omega) b4]
          by_cases hn2 : n ≤ r.2
          · rw [memL_low (n := n) (lo := r.2 + 2) (by omega) a4]; simp
          · omega
        · simp [hn]
theorem meetM_norm (a b : List Rg) : meetM (norm a) (norm b) = meetL a b := by
  obtain ⟨c, d⟩ := meetM_ok _ (norm a) (norm b) (-200) (-200) (Nat.le_refl _) (norm_normal a) (norm_normal b)
  refine is_canon (c.mono (by decide)) (fun n h1 h2 => ?_)
  rw [d, memL_norm, memL_norm]; simp [inD, h1, h2]

/-! ### what is left -/
def complW (from' : Int) : List Rg → List Rg
  | [] => if from' ≤ 200 then [(from', 200)] else []
  | r :: l => (if from' < r.1 then [(from', r.1 - 1)] else []) ++ complW (r.2 + 1) l
theorem complW_ok : ∀ (l : List Rg) (f : Int), -200 ≤ f → NormFrom f l → NormFrom f (complW f l) ∧ ∀ n, n ≤ 200 → memL (complW f l) n = (decide (f ≤ n) && !memL l n)
  | [], f, hf, _ => by
    unfold complW
    split
    · exact ⟨⟨Int.le_refl _, by assumption, Int.le_refl _, trivial⟩, fun n hn => by simp [memL_cons, memL_nil, hn]⟩
    · exact ⟨trivial, fun n hn => by simp [memL_nil]; omega⟩
  | r :: l, f, hf, ⟨h1, h2, h3, h4⟩ => by
    obtain ⟨a, b⟩ := complW_ok l (r.2 + 1) (by omega) (h4.mono (by omega))
    unfold complW
    constructor
    · split
      · exact ⟨Int.le_refl _, by dsimp only; omega, by dsimp only; omega, a.mono (by dsimp only; omega)⟩
      · exact a.mono (by omega)
    · intro n hn
      rw [memL_append, b n hn, memL_cons]
      by_cases hlow : n ≤ r.2
      · rw [memL_low (n := n) (lo := r.2 + 2) (by omega) h4, Bool.eq_iff_iff]
        split <;> simp [memL_cons, memL_nil] <;> omega
      · generalize memL l n = q
        cases q <;> rw [Bool.eq_iff_iff] <;> split <;> simp [memL_cons, memL_nil] <;> omega
theorem complW_norm (a : List Rg) : complW (-200) (norm a) = complL a := by
  obtain ⟨c, d⟩ := complW_ok (norm a) (-200) (by decide) (norm_normal a)
  refine is_canon c (fun n h1 h2 => ?_)
  rw [d n h2, memL_norm]; simp [inD, h1, h2]

/-- how many -/
def sizeL : List Rg → Int
  | [] => 0
  | r :: l => (r.2 - r.1 + 1) + sizeL l
def cnt (S : Int → Bool) : Nat → Int → Int
  | 0, _ => 0
  | k + 1, n => (if S n = true then 1 else 0) + cnt S k (n + 1)
theorem sizeL_canonFrom (S : Int → Bool) : ∀ (k : Nat) (n : Int), sizeL (canonFrom S k n) = cnt S k n
  | 0, _ => rfl
  | k + 1, n => by
    have ih := sizeL_canonFrom S k (n + 1)
    unfold canonFrom cnt
    by_cases hS : S n = true
    · rw [if_pos hS, if_pos hS, ← ih]
      cases hc : canonFrom S k (n + 1) with
      | nil => simp [sizeL]
      | cons r t =>
        dsimp only
        split <;> simp only [sizeL] <;> omega
    · rw [if_neg hS, if_neg hS, ih]; omega
theorem sizeL_canon (S : Int → Bool) : sizeL (canon S) = cnt S 401 (-200) := sizeL_canonFrom S 401 (-200)
theorem cnt_nonneg (S : Int → Bool) : ∀ (k : Nat) (n : Int), 0 ≤ cnt S k n ∧ cnt S k n ≤ k
  | 0, _ => ⟨Int.le_refl _, Int.le_refl _⟩
  | k + 1, n => by have := cnt_nonneg S k (n + 1); unfold cnt; split <;> omega
theorem cnt_join (S T : Int → Bool) : ∀ (k : Nat) (n : Int), cnt (fun m => S m || T m) k n + cnt (fun m => S m && T m) k n = cnt S k n + cnt T k n
  | 0, _ => rfl
  | k + 1, n => by
    have := cnt_join S T k (n + 1)
    simp only [cnt]
    by_cases hS : S n = true <;> by_cases hT : T n = true <;> simp [hS, hT] <;> omega
theorem sizeL_append (a b : List Rg) : sizeL (a ++ b) = sizeL a + sizeL b := by
  induction a with
  | nil => simp [sizeL]
  | cons r a ih => simp only [List.cons_append, sizeL, ih]; omega

/-- which is at a place -/
def atL : List Rg → Int → Option Int
  | [], _ => none
  | r :: l, i => if i ≥ r.2 - r.1 + 1 then atL l (i - (r.2 - r.1 + 1)) else some (r.1 + i)
def seek (S : Int → Bool) : Nat → Int → Int → Option Int
  | 0, _, _ => none
  | k + 1, n, i => if S n = true then (if i = 0 then some n else seek S k (n + 1) (i - 1)) else seek S k (n + 1) i
theorem atL_canonFrom (S : Int → Bool) : ∀ (k : Nat) (n i : Int), n + k = 201 → 0 ≤ i → atL (canonFrom S k n) i = seek S k n i
  | 0, _, _, _, _ => rfl
  | k + 1, n, i, hk, hi => by
    unfold canonFrom seek
    have hn := canonFrom_normal S k (n + 1) (by omega)
    by_cases hS : S n = true
    · rw [if_pos hS, if_pos hS]
      by_cases h0 : i = 0
      · subst h0
        rw [if_pos rfl]
        cases hc : canonFrom S k (n + 1) with
        | nil => simp [atL]
        | cons r t =>
          rw [hc] at hn
          have := hn.2.1
          have := hn.1
          dsimp only
          split
          · simp only [atL]; rw [if_neg (by omega)]; simp
          · simp [atL]
      · rw [if_neg h0, ← atL_canonFrom S k (n + 1) (i - 1) (by omega) (by omega)]
        cases hc : canonFrom S k (n + 1) with
        | nil => simp [atL]; omega
        | cons r t =>
          rw [hc] at hn
          dsimp only
          split
          · next he =>
            simp only [atL]
            by_cases hc : i ≥ r.2 - n + 1
            · rw [if_pos hc, if_pos (by omega)]; congr 1; omega
            · rw [if_neg hc, if_neg (by omega)]; congr 1; omega
          · rw [atL]; dsimp only; rw [if_pos (by omega)]; congr 1; omega
    · rw [if_neg hS, if_neg hS]; exact atL_canonFrom S k (n + 1) i (by omega) hi
theorem atL_canon (S : Int → Bool) (i : Int) (hi : 0 ≤ i) : atL (canon S) i = seek S 401 (-200) i := atL_canonFrom S 401 (-200) i (by decide) hi

/-- the ends -/
def endsL (l : List Rg) : Int × Int × Bool :=
  match l with
  | [] => (0, 0, false)
  | r :: t => (r.1, ((r :: t).getLast (by simp)).2, true)
end Go.Proofs.Ytmffobadnmkpbaa
namespace Go.Proofs.Ytmffobadnmkpbaa
open Go.RowKit

def cellsR (rs : List Rg) : List Value := rs.flatMap fun r => [Value.int .i64 r.1, Value.int .i64 r.2]
theorem cellsR_length (rs : List Rg) : (cellsR rs).length = rs.length * 2 := by
  induction rs with
  | nil => rfl
  | cons r rs ih => simp [cellsR] at ih ⊢; omega
theorem cellsR_cons (r : Rg) (rs : List Rg) : cellsR (r :: rs) = .int .i64 r.1 :: .int .i64 r.2 :: cellsR rs := rfl
theorem cellsR_append (a b : List Rg) : cellsR (a ++ b) = cellsR a ++ cellsR b := by simp [cellsR]
theorem cellsR_at (rs : List Rg) : ∀ j, (hj : j < rs.length) → (cellsR rs)[j * 2]? = some (.int .i64 rs[j].1) ∧ (cellsR rs)[j * 2 + 1]? = some (.int .i64 rs[j].2) := by
  induction rs with
  | nil => intro j hj; simp at hj
  | cons r rs ih =>
    intro j hj
    cases j with
    | zero => exact ⟨rfl, rfl⟩
    | succ j =>
      have := ih j (by simpa using hj)
      rw [cellsR_cons, show (j + 1) * 2 = j * 2 + 1 + 1 by omega]
      exact this
theorem cellsR_drop (rs : List Rg) (m : Nat) : (cellsR rs).drop (m * 2) = cellsR (rs.drop m) := by
  induction rs generalizing m with
  | nil => simp [cellsR]
  | cons r rs ih =>
    cases m with
    | zero => rfl
    | succ m => rw [cellsR_cons, show (m + 1) * 2 = m * 2 + 1 + 1 by omega]; exact ih m
theorem cellsR_take (rs : List Rg) (m : Nat) : (cellsR rs).take (m * 2) = cellsR (rs.take m) := by
  induction rs generalizing m with
  | nil => simp [cellsR]
  | cons r rs ih =>
    cases m with
    | zero => simp [cellsR]
    | succ m =>
      rw [cellsR_cons, show (m + 1) * 2 = m * 2 + 1 + 1 by omega]
      show Value.int .i64 r.1 :: Value.int .i64 r.2 :: (cellsR rs).take (m * 2) = _
      rw [ih m]; rfl
theorem cellsR_one (rs : List Rg) : ∀ u ∈ cellsR rs, u.oneCell' = true := by
  intro u hu
  obtain ⟨r, _, h⟩ := List.mem_flatMap.1 hu
  simp at h
  rcases h with rfl | rfl <;> rfl

/-- v is the list of ranges rs -/
def RgAt (w : World) (v : Value) (rs : List Rg) : Prop := SlAt w 2 v rs.length (cellsR rs)
theorem RgAt.below {w w' : World} {v : Value} {rs : List Rg} (h : RgAt w v rs) (hb : Below w.heap.size w w') : RgAt w' v rs := SlAt.below h hb
theorem RgAt.nil {w : World} : RgAt w (.slice none 0 0) [] := SlAt.nil
theorem RgAt.own {w : World} {base : Nat} {e : TypeId} {v : Value} {rs : List Rg} (h : w.ownsRow base e 2 v rs.length (cellsR rs)) : RgAt w v rs := SlAt.of_own h
theorem RgAt.at {w : World} {v : Value} {rs : List Rg} (h : RgAt w v rs) (hp : 0 < rs.length) :
    ∃ b off cap, v = .slice (some ⟨b, off, none⟩) rs.length cap ∧ rs.length ≤ cap ∧ b < w.heap.size ∧
      ∀ j, (hj : j < rs.length) → w.cell? ⟨b, off + j * 2, none⟩ = some (.int .i64 rs[j].1) ∧ w.cell? ⟨b, off + j * 2 + 1, none⟩ = some (.int .i64 rs[j].2) := by
  obtain ⟨b, off, cap, rfl, h1, _, h2, h3⟩ := SlAt.pos h (by omega)
  refine ⟨b, off, cap, rfl, h1, h2, fun j hj => ?_⟩
  obtain ⟨a1, a2⟩ := cellsR_at rs j hj
  have b1 := h3 (j * 2) (by omega)
  have b2 := h3 (j * 2 + 1) (by omega)
  rw [a1] at b1
  rw [a2] at b2
  exact ⟨b1, b2⟩

theorem RgAt.empty {w : World} {b o : Nat} (_u : Nat) : RgAt w (.slice (some ⟨b, o, none⟩) 0 0) [] :=
  ⟨rfl, _, _, rfl, Nat.le_refl _, by simp [maxLen], fun _ => rfl, fun h => by simp at h⟩
theorem RgAt.tail_lt {w : World} {b o c : Nat} {r : Rg} {xs : List Rg} (h : RgAt w (.slice (some ⟨b, o, none⟩) (xs.length + 1) c) (r :: xs)) : RgAt w (.slice (some ⟨b, o + 2, none⟩) xs.length (c - 1)) xs := by
  have h' : SlAt w 2 (.slice (some ⟨b, o, none⟩) (xs.length + 1) c) (xs.length + 1) (cellsR (r :: xs)) := h
  exact SlAt.drop (by decide) h' 1 (by omega) (by omega) rfl (fun _ b' o' he => by simp at he; rw [he.1, he.2]) (fun _ he => by cases he)
theorem Try.infoRg : (Try.prog.info? 107).map (fun i => (i.zero, i.size, i.bytes)) = some (some (.agg #[.int .i64 0, .int .i64 0]), 2, 16) := by kernel_rfl

/-- 'out = append(out, r)', r of two cells, laid in a new block just before -/
theorem wpList_append2g {P : Program} {w0 : World} {ops : Array Oper} {rest : List Oper} {o : Oper} {a : Act} {Q : Exit → Act → World → Prop} (hgd : o.guard = none) (s x : Operand) (t : TypeId)
    (ho : o.op = .call { callee := .builtin .append, args := #[s, x], argTypes := #[t, t] })
    (base : Nat) (e : TypeId) (i : TypeInfo) (z : Value) (bytes : Nat) (ht : P.underlying t = some (.slice e)) (hi : P.info? e = some i) (hz : i.zero = some z)
    (hsize : i.size = 2) (hby : i.bytes = bytes) (hzs : z.cells.size = 2)
    (v : Value) (n : Nat) (xs : List Value) (hs : a.eval s = v) (hown : w0.ownsRow base e 2 v n xs) {e' : TypeId}
    (u1 u2 : Value) {g : Nat} (hx : a.eval x = .slice (some ⟨g, 0, none⟩) 1 1) (hg : w0.heap.size = g) (h1 : u1.oneCell' = true) (h2 : u2.oneCell' = true)
    (hbytes : (n + 1) * bytes ≤ 140737488355328 ∧ n + 1 ≤ 140737488355328) (hbase : base ≤ w0.heap.size)
    (h : ∀ v' w', w'.ownsRow base e 2 v' (n + 1) (xs ++ [u1, u2]) → Below base w0 w' → (∀ b off u, v.ownBlock ≠ some b → w0.cell? ⟨b, off, none⟩ = some u → w'.cell? ⟨b, off, none⟩ = some u) → wpList P ops Q rest (a.put o.dst v') w') :
    wpList P ops Q (o :: rest) a (w0.alloc (.cells #[u1, u2] e')) := by
  subst hg
  refine wpList_append_own _ hgd s x t ho base e i z 2 bytes ht hi hz hsize hby hzs (by decide) v n xs hs (hown.alloc _) ⟨w0.heap.size, 0, none⟩ 1 1 [u1, u2] hx rfl ?_ ?_ ?_ hbytes.1 ?_ ?_
  · intro j y hj
    match j, hj with
    | 0, hj => simp at hj; subst hj; simp [Addr.add]
    | 1, hj => simp at hj; subst hj; simp [Addr.add]
  · intro y hy; simp at hy; rcases hy with rfl | rfl <;> assumption
  · unfold maxLen; omega
  · simp; omega
  · intro v' w' r1 r2 r3
    refine h v' w' r1 (below_grown hbase r2 (ownBlock_ge hown)) (fun b off u hne hc => ?_)
    have hlt := World.block_lt_of_cell? w0 _ hc
    obtain ⟨_, _, _, _, hk⟩ := r2
    have hc2 := Lib.cell?_alloc_some (.cells #[u1, u2] e') hc
    rw [← hc2]
    exact World.cell?_of_block (hk b (by simp at hlt ⊢; omega) (fun he => hne he.symm))
theorem wpList_append2 {P : Program} {w0 : World} {ops : Array Oper} {rest : List Oper} {o : Oper} {a : Act} {Q : Exit → Act → World → Prop} (hgd : o.guard = none) (s x : Operand) (t : TypeId)
    (ho : o.op = .call { callee := .builtin .append, args := #[s, x], argTypes := #[t, t] })
    (base : Nat) (e : TypeId) (i : TypeInfo) (z : Value) (bytes : Nat) (ht : P.underlying t = some (.slice e)) (hi : P.info? e = some i) (hz : i.zero = some z)
    (hsize : i.size = 2) (hby : i.bytes = bytes) (hzs : z.cells.size = 2)
    (v : Value) (n : Nat) (xs : List Value) (hs : a.eval s = v) (hown : w0.ownsRow base e 2 v n xs) {e' : TypeId}
    (u1 u2 : Value) {g : Nat} (hx : a.eval x = .slice (some ⟨g, 0, none⟩) 1 1) (hg : w0.heap.size = g) (h1 : u1.oneCell' = true) (h2 : u2.oneCell' = true)
    (hbytes : (n + 1) * bytes ≤ 140737488355328 ∧ n + 1 ≤ 140737488355328) (hbase : base ≤ w0.heap.size)
    (h : ∀ v' w', w'.ownsRow base e 2 v' (n + 1) (xs ++ [u1, u2]) → Below base w0 w' → True → wpList P ops Q rest (a.put o.dst v') w') :
    wpList P ops Q (o :: rest) a (w0.alloc (.cells #[u1, u2] e')) :=
  wpList_append2g hgd s x t ho base e i z bytes ht hi hz hsize hby hzs v n xs hs hown u1 u2 hx hg h1 h2 hbytes hbase (fun v' w' a b _ => h v' w' a b trivial)
end Go.Proofs.Ytmffobadnmkpbaa
namespace Go.Proofs.Ytmffobadnmkpbaa
open Go.RowKit

set_option maxRecDepth 100000 in
theorem neqRg (x y : Rg) (w : World) : (binOp .neq 107 (.agg #[.int .i64 x.1, .int .i64 x.2]) (.agg #[.int .i64 y.1, .int .i64 y.2])).run Try.prog w = .ok (.bool (decide (x ≠ y))) w := by
  have u3 := Try.underlying3
  have a3 := Try.isAgg3
  have z3 := Try.sizeOf3
  have hS : Try.prog.underlying 107 = some (.struct (Try.prog.fieldsOf 107)) := by kernel_rfl
  have hp : Try.prog.stoodInHeld 107 = false := by kernel_rfl
  rw [run_neq_struct, show (10000 : Nat) = 9999 + 1 from rfl, run_equalIn_agg w 9999 107 _ _ hS hp]
  simp only [Program.fieldsOf, Try.underlying107]
  go_simp
  obtain ⟨x1, x2⟩ := x
  obtain ⟨y1, y2⟩ := y
  by_cases h1 : x1 = y1 <;> by_cases h2 : x2 = y2 <;> simp [h1, h2]
theorem guardRg (o : BinOp) (a b : Operand) (xs ys : Array Value) (w : World) : (eqGuard o 107 a b (.agg xs) (.agg ys)).run Try.prog w = .ok () w := run_eqGuard_agg w o 107 a b xs ys (by kernel_rfl)
end Go.Proofs.Ytmffobadnmkpbaa
namespace Go.Proofs.Ytmffobadnmkpbaa

/-- the last range's upper end turned -/
def setTop (O : List Rg) (n : Int) : List Rg :=
  match O.getLast? with
  | none => O
  | some p => O.dropLast ++ [(p.1, n)]
theorem setTop_snoc (M : List Rg) (p : Rg) (n : Int) : setTop (M ++ [p]) n = M ++ [(p.1, n)] := by unfold setTop; simp
def accL (S : Int → Bool) : Nat → List Rg × Bool
  | 0 => ([], false)
  | k + 1 =>
    if S ((k : Int) - 200) = true then
      (if (accL S k).2 = true then setTop (accL S k).1 ((k : Int) - 200) else (accL S k).1 ++ [((k : Int) - 200, (k : Int) - 200)], true)
    else ((accL S k).1, false)
theorem accL_ok (S : Int → Bool) : ∀ k : Nat, k ≤ 401 → Normal (accL S k).1 ∧ (∀ n, memL (accL S k).1 n = (decide (-200 ≤ n) && decide (n < (k : Int) - 200) && S n)) ∧
    ((accL S k).2 = true → ∃ M p, (accL S k).1 = M ++ [p] ∧ p.2 = (k : Int) - 201) ∧ ((accL S k).2 = false → ∀ p ∈ (accL S k).1, p.2 + 2 ≤ (k : Int) - 200)
  | 0, _ => ⟨trivial, fun n => by rw [accL, memL_nil]; symm; simp; omega, fun h => by simp [accL] at h, fun _ p hp => by simp [accL] at hp⟩
  | k + 1, hk => by
    obtain ⟨h1, h2, h3, h4⟩ := accL_ok S k (by omega)
    unfold accL
    generalize accL S k = st at h1 h2 h3 h4
    obtain ⟨O, op⟩ := st
    dsimp only at h1 h2 h3 h4 ⊢
    by_cases hS : S ((k : Int) - 200) = true
    · rw [if_pos hS]
      cases op with
      | true =>
        obtain ⟨M, p, rfl, hp⟩ := h3 rfl
        rw [if_pos rfl, setTop_snoc]
        obtain ⟨n1, n2, n3, n4, n5⟩ := NormFrom.snoc.1 h1
        refine ⟨NormFrom.snoc.2 ⟨n1, n2, by dsimp only; omega, by dsimp only; omega, n5⟩, fun n => ?_, fun _ => ⟨M, _, rfl, by push_cast; first | omega | (dsimp only; omega)⟩, fun h => by cases h⟩
        have := h2 n
        rw [memL_append, memL_cons, memL_nil] at this ⊢
        by_cases e : n = (k : Int) - 200
        · subst e
          rw [hS, Bool.eq_iff_iff]; simp; omega
        · have e1 : (decide (p.1 ≤ n) && decide (n ≤ (k : Int) - 200)) = (decide (p.1 ≤ n) && decide (n ≤ p.2)) := by
            rw [Bool.eq_iff_iff]; simp; omega
          have e2 : decide (n < ((k + 1 : Nat) : Int) - 200) = decide (n < (k : Int) - 200) := by
            rw [decide_eq_decide]; push_cast; omega
          dsimp only
          rw [e1, e2, this]
      | false =>
        rw [if_neg (by simp)]
        refine ⟨NormFrom.snoc.2 ⟨h1, by dsimp only; omega, Int.le_refl _, by dsimp only; omega, h4 rfl⟩, fun n => ?_, fun _ => ⟨O, _, rfl, by push_cast; first | omega | (dsimp only; omega)⟩, fun h => by cases h⟩
        rw [memL_append, memL_cons, memL_nil, h2 n]
        by_cases e : n = (k : Int) - 200
        · subst e
          rw [hS, Bool.eq_iff_iff]; simp; omega
        · have e1 : (decide ((k : Int) - 200 ≤ n) && decide (n ≤ (k : Int) - 200)) = false := by simp; omega
          have e2 : decide (n < ((k + 1 : Nat) : Int) - 200) = decide (n < (k : Int) - 200) := by
            rw [decide_eq_decide]; push_cast; omega
          dsimp only
          rw [e1, e2]; simp
    · rw [if_neg hS]
      refine ⟨h1, fun n => ?_, fun h => (by cases h), fun _ p hp => ?_⟩
      · rw [h2 n]
        by_cases e : n = (k : Int) - 200
        · subst e
          have : S ((k : Int) - 200) = false := by simpa using hS
          simp [this]
        · have e2 : decide (n < ((k + 1 : Nat) : Int) - 200) = decide (n < (k : Int) - 200) := by
            rw [decide_eq_decide]; push_cast; omega
          rw [e2]
      · push_cast
        cases op with
        | true =>
          obtain ⟨M, q, rfl, hq⟩ := h3 rfl
          rcases List.mem_append.1 hp with h | h
          · have := (NormFrom.snoc.1 h1).2.2.2.2 p h
            have := (NormFrom.snoc.1 h1).2.2.1
            omega
          · simp at h; subst h; omega
        | false => have := h4 rfl p hp; omega
theorem accL_canon (S : Int → Bool) : (accL S 401).1 = canon S := by
  obtain ⟨h1, h2, _⟩ := accL_ok S 401 (Nat.le_refl _)
  refine is_canon h1 (fun n a b => ?_)
  rw [h2 n]; simp [a]; omega
theorem accL_len (S : Int → Bool) (k : Nat) (hk : k ≤ 401) : (accL S k).1.length ≤ 201 := normal_len (accL_ok S k hk).1

/-- is the list normal as it stands? one range more -/
theorem normal_snoc {out : List Rg} {p : Rg} : Normal (out ++ [p]) ↔ Normal out ∧ -200 ≤ p.1 ∧ p.1 ≤ p.2 ∧ p.2 ≤ 200 ∧ (∀ q, out.getLast? = some q → ¬ p.1 - 1 ≤ q.2) := by
  unfold Normal
  rw [NormFrom.snoc]
  constructor
  · rintro ⟨a, b, c, d, e⟩
    refine ⟨a, b, c, d, fun q hq => ?_⟩
    have := e q (List.mem_of_getLast? hq)
    omega
  · rintro ⟨a, b, c, d, e⟩
    refine ⟨a, b, c, d, fun q hq => ?_⟩
    rcases List.eq_nil_or_concat out with rfl | ⟨M, t, rfl⟩
    · simp at hq
    · rw [List.concat_eq_append] at *
      have h1 := e t (by simp)
      rcases List.mem_append.1 hq with h | h
      · have h2 := (NormFrom.snoc.1 a).2.2.2.2 q h
        have h3 := (NormFrom.snoc.1 a).2.2.1
        omega
      · simp at h; subst h; omega
theorem normal_take {l : List Rg} (h : Normal l) (k : Nat) : Normal (l.take k) := by
  have h' := h
  rw [← List.take_append_drop k l] at h'
  have : ∀ {x y : List Rg} {lo : Int}, NormFrom lo (x ++ y) → NormFrom lo x := by
    intro x
    induction x with
    | nil => intros; trivial
    | cons r x ih => intro y lo hh; exact ⟨hh.1, hh.2.1, hh.2.2.1, ih hh.2.2.2⟩
  exact this h'
end Go.Proofs.Ytmffobadnmkpbaa
namespace Go.Proofs.Ytmffobadnmkpbaa
open Go.RowKit Go.ChangeShapes Go.WideShapes Go.ChangeAt

theorem cellsRg : Try.prog.cellsOf 107 = 2 := by kernel_rfl
theorem cellsInt : Try.prog.cellsOf 3 = 1 := by kernel_rfl
theorem pair_cut {xs : List Value} {n i : Nat} (hl : xs.length = n * 2) (hi : i < n) : ∃ x0 x1, xs[i * 2]? = some x0 ∧ xs[i * 2 + 1]? = some x1 ∧ (xs.drop (i * 2)).take 2 = [x0, x1] := by
  have h0 : i * 2 < xs.length := by omega
  have h1 : i * 2 + 1 < xs.length := by omega
  refine ⟨xs[i * 2], xs[i * 2 + 1], List.getElem?_eq_getElem h0, List.getElem?_eq_getElem h1, ?_⟩
  rw [List.drop_eq_getElem_cons h0, List.drop_eq_getElem_cons h1]
  rfl
set_option maxRecDepth 100000 in
theorem open_rgs {H : Type} {enc : TypeId × Value → H} {w : World} {sp : Nat → Bool} {held : Bool} {base : Nat} {v : Value} {d : DataW H} {ps : List MemPlace}
    (hval : Value.okWide Try.prog w .any base 61 v) (h0 : DataW.Trod enc Try.prog w 0 sp held 61 v d ps) : ∃ rs : List Rg, RgAt w v rs := by
  obtain ⟨a0, l0, c0, rfl⟩ := okWide_slice Try.underlying61 hval
  obtain ⟨fuel, h⟩ := Joins.field_of_Trod h0 rfl
  obtain ⟨n, xs, hS, hE⟩ := open_sl (k := 2) Try.underlying61 cellsRg h
  have hl := hS.len
  have hx : ∀ i, i < n → ∃ r : Rg, xs[i * 2]? = some (.int .i64 r.1) ∧ xs[i * 2 + 1]? = some (.int .i64 r.2) := fun i hi => by
    obtain ⟨m, y, hy⟩ := hE i hi
    obtain ⟨x0, x1, e0, e1, e2⟩ := pair_cut hl hi
    rw [e2] at hy
    obtain ⟨y0, y1, q, _, _, t0, t1⟩ := trod_struct2 Try.underlying107 hy
    obtain ⟨z0, hz0, _, _⟩ := DataW.trod_int Try.underlying3 t0
    obtain ⟨z1, hz1, _, _⟩ := DataW.trod_int Try.underlying3 t1
    refine ⟨(z0, z1), ?_, ?_⟩
    · rw [e0]; simp [cellsInt] at hz0; rw [hz0]
    · rw [e1]; simp [cellsInt] at hz1; rw [hz1]
  obtain ⟨f, hf⟩ := Deep.choose_lt hx
  refine ⟨(List.range n).map f, ?_⟩
  have e : xs = cellsR ((List.range n).map f) := by
    apply List.ext_getElem?
    intro t
    by_cases ht : t < n * 2
    · have hd : t / 2 < ((List.range n).map f).length := by simp; omega
      obtain ⟨a, b⟩ := cellsR_at ((List.range n).map f) (t / 2) hd
      obtain ⟨f0, f1⟩ := hf (t / 2) (by omega)
      have e3 : ((List.range n).map f)[t / 2] = f (t / 2) := by simp
      rw [e3] at a b
      rcases (show t % 2 = 0 ∨ t % 2 = 1 by omega) with h | h
      · rw [show xs[t]? = xs[t / 2 * 2]? by congr 1; omega, f0, show (cellsR ((List.range n).map f))[t]? = (cellsR ((List.range n).map f))[t / 2 * 2]? by congr 1; omega, a]
      · rw [show xs[t]? = xs[t / 2 * 2 + 1]? by congr 1; omega, f1, show (cellsR ((List.range n).map f))[t]? = (cellsR ((List.range n).map f))[t / 2 * 2 + 1]? by congr 1; omega, b]
    · rw [List.getElem?_eq_none (by omega), List.getElem?_eq_none (by rw [cellsR_length]; simp; omega)]
  unfold RgAt
  rw [← e]
  simpa using hS
end Go.Proofs.Ytmffobadnmkpbaa
