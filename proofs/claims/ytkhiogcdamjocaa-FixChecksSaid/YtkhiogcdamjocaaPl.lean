/-
  NORM'S PLAIN LAW: clamp each range, sort by the lower ends, melt what meets: the normal list. No program.
-/
import Derived.Test.YtkhiogcdamjocaaSet
namespace Go.Proofs.Ytkhiogcdamjocaa

def clampR (r : Rg) : Rg := (max r.1 (-200), min r.2 200)
def clampL (rs : List Rg) : List Rg := (rs.map clampR).filter fun r => decide (r.1 ≤ r.2)
theorem clampL_snoc (rs : List Rg) (r : Rg) : clampL (rs ++ [r]) = clampL rs ++ (if (clampR r).1 ≤ (clampR r).2 then [clampR r] else []) := by
  unfold clampL
  rw [List.map_append, List.filter_append]
  congr 1
  simp only [List.map_cons, List.map_nil, List.filter_cons, List.filter_nil]
  split <;> simp_all
theorem clampL_len (rs : List Rg) : (clampL rs).length ≤ rs.length := by
  unfold clampL; exact Nat.le_trans (List.length_filter_le _ _) (by simp)
theorem clampL_ok (rs : List Rg) : ∀ r ∈ clampL rs, -200 ≤ r.1 ∧ r.1 ≤ r.2 ∧ r.2 ≤ 200 := by
  intro r hr
  obtain ⟨h1, h2⟩ := List.mem_filter.1 hr
  obtain ⟨s, _, rfl⟩ := List.mem_map.1 h1
  simp only [decide_eq_true_eq] at h2
  simp only [clampR] at h2 ⊢
  omega
theorem memL_clampL (rs : List Rg) (n : Int) (h1 : -200 ≤ n) (h2 : n ≤ 200) : memL (clampL rs) n = memL rs n := by
  rw [Bool.eq_iff_iff]
  simp only [memL, List.any_eq_true, clampL, List.mem_filter, List.mem_map, Bool.and_eq_true, decide_eq_true_eq]
  constructor
  · rintro ⟨r, ⟨⟨s, hs, rfl⟩, _⟩, h3, h4⟩
    simp only [clampR] at h3 h4
    exact ⟨s, hs, by omega, by omega⟩
  · rintro ⟨s, hs, h3, h4⟩
    refine ⟨clampR s, ⟨⟨s, hs, rfl⟩, ?_⟩, ?_, ?_⟩ <;> simp only [clampR] <;> omega

/-- one range more -/
def pushR (out : List Rg) (r : Rg) : List Rg :=
  match out.getLast? with
  | none => out ++ [r]
  | some p => if r.1 ≤ p.2 + 1 then out.dropLast ++ [(p.1, max p.2 r.2)] else out ++ [r]
def mergeL (l : List Rg) : List Rg := l.foldl pushR []
theorem pushR_nil (r : Rg) : pushR [] r = [r] := rfl
theorem pushR_snoc (out : List Rg) (p r : Rg) : pushR (out ++ [p]) r = if r.1 ≤ p.2 + 1 then out ++ [(p.1, max p.2 r.2)] else out ++ [p] ++ [r] := by
  unfold pushR; simp
theorem mergeL_snoc (l : List Rg) (r : Rg) : mergeL (l ++ [r]) = pushR (mergeL l) r := by unfold mergeL; rw [List.foldl_append]; rfl

theorem pushR_len (out : List Rg) (r : Rg) : (pushR out r).length ≤ out.length + 1 := by
  rcases List.eq_nil_or_concat out with rfl | ⟨o, p, rfl⟩
  · exact Nat.le_refl _
  · rw [List.concat_eq_append, pushR_snoc]; split <;> simp
theorem mergeL_len (l : List Rg) : (mergeL l).length ≤ l.length := by
  have : ∀ (l o : List Rg), (l.foldl pushR o).length ≤ o.length + l.length := by
    intro l
    induction l with
    | nil => intro o; simp
    | cons r l ih => intro o; rw [List.foldl_cons]; have := ih (pushR o r); have := pushR_len o r; simp; omega
  simpa [mergeL] using this l []

/-- normal, with a last range that begins at hi's begin -/
theorem NormFrom.snoc {lo : Int} : ∀ {out : List Rg} {p : Rg}, NormFrom lo (out ++ [p]) ↔ NormFrom lo out ∧ lo ≤ p.1 ∧ p.1 ≤ p.2 ∧ p.2 ≤ 200 ∧ (∀ q ∈ out, q.2 + 2 ≤ p.1)
  | [], p => by simp [NormFrom]
  | r :: out, p => by
    simp only [List.cons_append, NormFrom, NormFrom.snoc (out := out) (p := p), List.mem_cons, forall_eq_or_imp]
    constructor
    · rintro ⟨a, b, c, d, e, f, g, h⟩; exact ⟨⟨a, b, c, d⟩, by omega, f, g, e, h⟩
    · rintro ⟨⟨a, b, c, d⟩, e, f, g, h, i⟩; exact ⟨a, b, c, d, h, f, g, i⟩
theorem pushR_ok (out : List Rg) (r : Rg) (ho : Normal out) (hr : -200 ≤ r.1 ∧ r.1 ≤ r.2 ∧ r.2 ≤ 200) (hs : ∀ p ∈ out, p.1 ≤ r.1) :
    Normal (pushR out r) ∧ (∀ n, memL (pushR out r) n = (memL out n || (decide (r.1 ≤ n) && decide (n ≤ r.2)))) ∧ ∀ p ∈ pushR out r, p.1 ≤ r.1 := by
  rcases List.eq_nil_or_concat out with rfl | ⟨o, p, rfl⟩
  · exact ⟨⟨hr.1, hr.2.1, hr.2.2, trivial⟩, fun n => by simp [pushR_nil, memL_cons, memL_nil], fun p hp => by simp [pushR_nil] at hp; subst hp; exact Int.le_refl _⟩
  · rw [List.concat_eq_append] at ho hs ⊢
    obtain ⟨n1, n2, n3, n4, n5⟩ := NormFrom.snoc.1 ho
    have hp := hs p (by simp)
    rw [pushR_snoc]
    split
    · next hc =>
      refine ⟨NormFrom.snoc.2 ⟨n1, n2, by dsimp only; omega, by dsimp only; omega, n5⟩, fun n => ?_, fun q hq => ?_⟩
      · rw [memL_append, memL_append, memL_cons, memL_cons, memL_nil, Bool.or_assoc]
        congr 1
        rw [Bool.eq_iff_iff]; simp; omega
      · rcases List.mem_append.1 hq with h | h
        · exact hs q (by simp [h])
        · simp at h; subst h; exact hp
    · next hc =>
      refine ⟨NormFrom.snoc.2 ⟨ho, hr.1, hr.2.1, hr.2.2, fun q hq => ?_⟩, fun n => by rw [memL_append]; simp [memL_cons, memL_nil], fun q hq => ?_⟩
      · rcases List.mem_append.1 hq with h | h
        · have := n5 q h; omega
        · simp at h; subst h; omega
      · rcases List.mem_append.1 hq with h | h
        · exact hs q h
        · simp at h; subst h; exact Int.le_refl _
theorem mergeL_ok (l : List Rg) (hok : ∀ r ∈ l, -200 ≤ r.1 ∧ r.1 ≤ r.2 ∧ r.2 ≤ 200) (hs : l.Pairwise fun a b => a.1 ≤ b.1) : Normal (mergeL l) ∧ ∀ n, memL (mergeL l) n = memL l n := by
  have key : ∀ (l o : List Rg), (∀ r ∈ l, -200 ≤ r.1 ∧ r.1 ≤ r.2 ∧ r.2 ≤ 200) → l.Pairwise (fun a b => a.1 ≤ b.1) → Normal o → (∀ p ∈ o, ∀ r ∈ l, p.1 ≤ r.1) →
      Normal (l.foldl pushR o) ∧ ∀ n, memL (l.foldl pushR o) n = (memL o n || memL l n) := by
    intro l
    induction l with
    | nil => intro o _ _ ho _; exact ⟨ho, fun n => by simp [memL_nil]⟩
    | cons r l ih =>
      intro o hok hs ho hb
      obtain ⟨s1, s2⟩ := List.pairwise_cons.1 hs
      obtain ⟨a, b, c⟩ := pushR_ok o r ho (hok r (by simp)) (fun p hp => hb p hp r (by simp))
      obtain ⟨d, e⟩ := ih (pushR o r) (fun x hx => hok x (by simp [hx])) s2 a (fun p hp x hx => by have := c p hp; have := s1 x hx; omega)
      exact ⟨d, fun n => by rw [List.foldl_cons, e, b, memL_cons, Bool.or_assoc]⟩
  obtain ⟨a, b⟩ := key l [] hok hs trivial (fun p hp => by simp at hp)
  exact ⟨a, fun n => by unfold mergeL; rw [b, memL_nil, Bool.false_or]⟩

/-- THE LAW: whatever order of the clamped ranges rises by the lower ends, what comes is the normal list -/
theorem mergeL_norm (rs l : List Rg) (hp : ∀ r, r ∈ l ↔ r ∈ clampL rs) (hs : l.Pairwise fun a b => a.1 ≤ b.1) : mergeL l = norm rs := by
  obtain ⟨a, b⟩ := mergeL_ok l (fun r hr => clampL_ok rs r ((hp r).1 hr)) hs
  refine is_canon a (fun n h1 h2 => ?_)
  rw [b, ← memL_clampL rs n h1 h2, Bool.eq_iff_iff]
  simp only [memL, List.any_eq_true, hp]
end Go.Proofs.Ytkhiogcdamjocaa
