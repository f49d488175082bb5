/-
  PLAIN LAWS of linear sums over sets: what a sum says once, what is sure of it. No program.
-/
import Derived.Test.YtkhiogcdamjocaaPl5
namespace Go.Proofs.Ytkhiogcdamjocaa

abbrev Ds := List (List Rg)
def domOf (ds : Ds) (v : Int) : List Rg := ds.getD v.toNat []
def loT (c : Int) (d : List Rg) : Int := if c < 0 then c * (endsL (norm d)).2.1 else c * (endsL (norm d)).1
def hiT (c : Int) (d : List Rg) : Int := if c < 0 then c * (endsL (norm d)).1 else c * (endsL (norm d)).2.1
def okT (d : List Rg) : Bool := (endsL (norm d)).2.2
/-- the terms: coefficient and variable -/
abbrev Ps := List (Int × Int)
def loS (ds : Ds) (ps : Ps) : Int := (ps.map fun p => loT p.1 (domOf ds p.2)).sum
def hiS (ds : Ds) (ps : Ps) : Int := (ps.map fun p => hiT p.1 (domOf ds p.2)).sum
def allOk (ds : Ds) (ps : Ps) : Bool := ps.all fun p => okT (domOf ds p.2)
def yesL (rel c lo hi : Int) : Bool := if rel = 3 then decide (hi ≤ c) else if rel = 2 then decide (c < lo) || decide (hi < c) else decide (lo = c) && decide (hi = c)
def noL (rel c lo hi : Int) : Bool := if rel = 3 then decide (c < lo) else if rel = 2 then decide (lo = c) && decide (hi = c) else decide (c < lo) || decide (hi < c)
def saysL (rel c : Int) (ds : Ds) (ps : Ps) : Int :=
  if allOk ds ps = true then (if yesL rel c (loS ds ps) (hiS ds ps) = true then 1 else if noL rel c (loS ds ps) (hiS ds ps) = true then -1 else 0) else 0
def staysP (rel c k lo hi x : Int) : Bool :=
  if rel = 3 then decide (lo ≤ c - k * x) else if rel = 2 then !(decide (lo = hi) && decide (c - k * x = lo)) else decide (lo ≤ c - k * x) && decide (c - k * x ≤ hi)
def narrowL (rel c k : Int) (d : List Rg) (lo hi : Int) : List Rg := canon fun x => memL d x && staysP rel c k lo hi x
def narrowAt (rel c : Int) (ds : Ds) (lo hi : Int) (p : Int × Int) : List Rg :=
  narrowL rel c p.1 (domOf ds p.2) (lo - loT p.1 (domOf ds p.2)) (hi - hiT p.1 (domOf ds p.2))
def onceGo (rel c : Int) (ds : Ds) (lo hi : Int) : Ps → Ds → Option Ds
  | [], out => some out
  | p :: ps, out => if narrowAt rel c ds lo hi p = [] then none else onceGo rel c ds lo hi ps (out.set p.2.toNat (narrowAt rel c ds lo hi p))
def onceL (rel c : Int) (ds : Ds) (ps : Ps) : Option Ds :=
  if allOk ds ps = true then (if ps = [] ∧ saysL rel c ds ps < 1 then none else onceGo rel c ds (loS ds ps) (hiS ds ps) ps (ds.map norm)) else none

/-! ### ends -/
theorem normal_last : ∀ {M : List Rg} {p : Rg} {lo : Int}, NormFrom lo (M ++ [p]) → ∀ n, memL (M ++ [p]) n = true → n ≤ p.2
  | [], p, lo, h, n, hm => by simp [memL] at hm; exact hm.2
  | r :: M, p, lo, h, n, hm => by
    obtain ⟨h1, h2, h3, h4⟩ := h
    rw [List.cons_append, memL_cons, Bool.or_eq_true] at hm
    rcases hm with hm | hm
    · simp at hm
      have := (NormFrom.bounds h4) p (by simp)
      omega
    · exact normal_last h4 n hm
theorem ends_mem (d : List Rg) (x : Int) (h : memL (norm d) x = true) : (endsL (norm d)).1 ≤ x ∧ x ≤ (endsL (norm d)).2.1 ∧ okT d = true := by
  have hN := norm_normal d
  unfold okT
  generalize norm d = L at *
  rcases List.eq_nil_or_concat L with rfl | ⟨M, p, rfl⟩
  · simp [memL_nil] at h
  · rw [List.concat_eq_append] at *
    have h1 := normal_last hN x h
    cases M with
    | nil => simp [memL] at h; exact ⟨h.1, h.2, rfl⟩
    | cons r M =>
      have hl2 : (r :: (M ++ [p])).getLast (by simp) = p := by
        have h1 : (r :: (M ++ [p])).getLast? = some p := List.getLast?_concat (l := r :: M) (a := p)
        rw [List.getLast?_eq_some_getLast (by simp)] at h1
        exact Option.some.inj h1
      refine ⟨?_, ?_, rfl⟩
      · obtain ⟨_, _, _, h4⟩ := hN
        rcases (show r.1 ≤ x ∨ x < r.1 by omega) with h5 | h5
        · exact h5
        · rw [List.cons_append, memL_cons] at h
          have : memL (M ++ [p]) x = false := memL_low (by omega) h4
          rw [this] at h; simp at h; omega
      · show x ≤ ((r :: (M ++ [p])).getLast _).2
        rw [hl2]; exact h1
theorem ends_in (d : List Rg) (h : okT d = true) : memL (norm d) (endsL (norm d)).1 = true ∧ memL (norm d) (endsL (norm d)).2.1 = true := by
  have hN := norm_bounds d
  unfold okT at h
  generalize norm d = L at *
  rcases List.eq_nil_or_concat L with rfl | ⟨M, p, rfl⟩
  · simp [endsL] at h
  · rw [List.concat_eq_append] at *
    have hp := hN p (by simp)
    cases M with
    | nil =>
      show memL [p] p.1 = true ∧ memL [p] p.2 = true
      simp [memL]; omega
    | cons r M =>
      have hr := hN r (by simp)
      have hl2 : (r :: (M ++ [p])).getLast (by simp) = p := by
        have h1 : (r :: (M ++ [p])).getLast? = some p := List.getLast?_concat (l := r :: M) (a := p)
        rw [List.getLast?_eq_some_getLast (by simp)] at h1
        exact Option.some.inj h1
      constructor
      · show memL (r :: (M ++ [p])) r.1 = true
        rw [memL_cons]; simp; left; omega
      · show memL (r :: (M ++ [p])) ((r :: (M ++ [p])).getLast _).2 = true
        rw [hl2, ← List.cons_append, memL_append]
        simp [memL]; right; omega
theorem okT_nil (d : List Rg) : okT d = !decide (norm d = []) := by
  unfold okT
  cases norm d <;> simp [endsL]
theorem ends_bnd (d : List Rg) : -200 ≤ (endsL (norm d)).1 ∧ (endsL (norm d)).1 ≤ 200 ∧ -200 ≤ (endsL (norm d)).2.1 ∧ (endsL (norm d)).2.1 ≤ 200 := by
  cases h : okT d with
  | true =>
    obtain ⟨a, b⟩ := ends_in d h
    have := memL_bounds (norm_normal d) a
    have := memL_bounds (norm_normal d) b
    omega
  | false =>
    rw [okT_nil] at h
    simp at h
    rw [h]; simp [endsL]

/-! ### sums -/
theorem mul_le_neg {c a b : Int} (h : c < 0) (h1 : a ≤ b) : c * b ≤ c * a := Int.mul_le_mul_of_nonpos_left (by omega) h1
theorem mul_le_pos {c a b : Int} (h : ¬ c < 0) (h1 : a ≤ b) : c * a ≤ c * b := Int.mul_le_mul_of_nonneg_left h1 (by omega)
theorem term_in (c : Int) (d : List Rg) (x : Int) (h : memL (norm d) x = true) : loT c d ≤ c * x ∧ c * x ≤ hiT c d := by
  obtain ⟨h1, h2, _⟩ := ends_mem d x h
  unfold loT hiT
  by_cases hc : c < 0
  · rw [if_pos hc, if_pos hc]; exact ⟨mul_le_neg hc h2, mul_le_neg hc h1⟩
  · rw [if_neg hc, if_neg hc]; exact ⟨mul_le_pos hc h1, mul_le_pos hc h2⟩
theorem term_le (c : Int) (d : List Rg) (h : okT d = true) : loT c d ≤ hiT c d := by
  obtain ⟨a, _⟩ := ends_in d h
  have := term_in c d _ a
  omega
/-- smaller domains: the term's ends move inwards -/
def SubD (d' d : List Rg) : Prop := ∀ x, memL (norm d') x = true → memL (norm d) x = true
theorem term_sub (c : Int) (d' d : List Rg) (hs : SubD d' d) (h : okT d' = true) : loT c d ≤ loT c d' ∧ hiT c d' ≤ hiT c d := by
  obtain ⟨a, b⟩ := ends_in d' h
  have h1 := term_in c d _ (hs _ a)
  have h2 := term_in c d _ (hs _ b)
  unfold loT hiT at *
  by_cases hc : c < 0
  · simp only [if_pos hc] at *; omega
  · simp only [if_neg hc] at *; omega
theorem okT_sub (d' d : List Rg) (hs : SubD d' d) (h : okT d' = true) : okT d = true := (ends_mem d _ (hs _ (ends_in d' h).1)).2.2

def sumX (x : List Int) (ps : Ps) : Int := (ps.map fun p => p.1 * x.getD p.2.toNat 0).sum
/-- x picks of each domain of a term -/
def Picks (ds : Ds) (x : List Int) (ps : Ps) : Prop := ∀ p ∈ ps, memL (norm (domOf ds p.2)) (x.getD p.2.toNat 0) = true
theorem sum_in (ds : Ds) (x : List Int) : ∀ (ps : Ps), Picks ds x ps → loS ds ps ≤ sumX x ps ∧ sumX x ps ≤ hiS ds ps
  | [], _ => ⟨Int.le_refl _, Int.le_refl _⟩
  | p :: ps, h => by
    have h1 := sum_in ds x ps (fun q hq => h q (by simp [hq]))
    have h2 := term_in p.1 _ _ (h p (by simp))
    simp only [loS, hiS, sumX, List.map_cons, List.sum_cons] at *
    omega
theorem sum_but (ds : Ds) (x : List Int) : ∀ (ps : Ps), Picks ds x ps → ∀ p ∈ ps,
    loS ds ps - loT p.1 (domOf ds p.2) ≤ sumX x ps - p.1 * x.getD p.2.toNat 0 ∧ sumX x ps - p.1 * x.getD p.2.toNat 0 ≤ hiS ds ps - hiT p.1 (domOf ds p.2)
  | [], _, _, h => by cases h
  | q :: ps, h, p, hp => by
    have hps : Picks ds x ps := fun q hq => h q (by simp [hq])
    rcases List.mem_cons.1 hp with rfl | hp
    · have h1 := sum_in ds x ps hps
      simp only [loS, hiS, sumX, List.map_cons, List.sum_cons] at *
      omega
    · have h1 := sum_but ds x ps hps p hp
      have h2 := term_in q.1 _ _ (h q (by simp))
      simp only [loS, hiS, sumX, List.map_cons, List.sum_cons] at *
      omega
theorem picks_ok (ds : Ds) (x : List Int) (ps : Ps) (h : Picks ds x ps) : allOk ds ps = true := by
  unfold allOk
  rw [List.all_eq_true]
  exact fun p hp => (ends_mem _ _ (h p hp)).2.2
def holdsS (rel c s : Int) : Bool := if rel = 3 then decide (s ≤ c) else if rel = 2 then decide (s ≠ c) else decide (s = c)
def holdsL (rel c : Int) (x : List Int) (ps : Ps) : Bool := holdsS rel c (sumX x ps)
/-- what is sure holds -/
theorem says_sure (rel c : Int) (ds : Ds) (x : List Int) (ps : Ps) (h : Picks ds x ps) :
    (saysL rel c ds ps = 1 → holdsL rel c x ps = true) ∧ (saysL rel c ds ps = -1 → holdsL rel c x ps = false) := by
  have h1 := sum_in ds x ps h
  unfold saysL holdsL holdsS
  rw [if_pos (picks_ok ds x ps h)]
  generalize loS ds ps = lo at *
  generalize hiS ds ps = hi at *
  generalize sumX x ps = s at *
  unfold yesL noL
  by_cases r3 : rel = 3
  · simp only [if_pos r3]
    by_cases a : hi ≤ c
    · simp [a]; omega
    · by_cases b : c < lo
      · simp [a, b]; omega
      · simp [a, b]
  · by_cases r2 : rel = 2
    · simp only [if_neg r3, if_pos r2]
      by_cases a : c < lo ∨ hi < c
      · have : (decide (c < lo) || decide (hi < c)) = true := by simpa using a
        simp [this]; omega
      · have : (decide (c < lo) || decide (hi < c)) = false := by simp; omega
        by_cases b : lo = c ∧ hi = c
        · simp [this, b.1, b.2]; omega
        · have h3 : (decide (lo = c) && decide (hi = c)) = false := by simp; omega
          simp [this, h3]
    · simp only [if_neg r3, if_neg r2]
      by_cases b : lo = c ∧ hi = c
      · simp [b.1, b.2]; omega
      · have h3 : (decide (lo = c) && decide (hi = c)) = false := by simp; omega
        by_cases a : c < lo ∨ hi < c
        · have : (decide (c < lo) || decide (hi < c)) = true := by simpa using a
          simp [this, h3]; omega
        · have : (decide (c < lo) || decide (hi < c)) = false := by simp; omega
          simp [this, h3]
theorem says_vals (rel c : Int) (ds : Ds) (ps : Ps) : saysL rel c ds ps = 1 ∨ saysL rel c ds ps = 0 ∨ saysL rel c ds ps = -1 := by
  unfold saysL
  split
  · split
    · exact .inl rfl
    · split
      · exact .inr (.inr rfl)
      · exact .inr (.inl rfl)
  · exact .inr (.inl rfl)
theorem says_nil (rel c : Int) (ds : Ds) : (saysL rel c ds [] < 1) ↔ holdsS rel c 0 = false := by
  unfold saysL holdsS yesL noL
  simp only [allOk, List.all_nil, if_true, loS, hiS, List.map_nil, List.sum_nil]
  by_cases r3 : rel = 3
  · simp only [if_pos r3]
    by_cases a : 0 ≤ c
    · simp [a]
    · simp [a]; split <;> omega
  · by_cases r2 : rel = 2
    · simp only [if_neg r3, if_pos r2]
      by_cases a : c = 0
      · subst a; simp
      · have : (decide (c < 0) || decide (0 < c)) = true := by simp; omega
        simp [this]; omega
    · simp only [if_neg r3, if_neg r2]
      by_cases a : c = 0
      · subst a; simp
      · have h3 : (decide ((0 : Int) = c) && decide ((0 : Int) = c)) = false := by simp; omega
        simp [h3]
        constructor
        · intro _; omega
        · intro _; split <;> omega

/-! ### once: nothing is lost -/
theorem stays_keeps (rel c k lo hi x s : Int) (hr : rel = 1 ∨ rel = 2 ∨ rel = 3) (h1 : lo ≤ s - k * x) (h2 : s - k * x ≤ hi) (hh : holdsS rel c s = true) : staysP rel c k lo hi x = true := by
  unfold staysP
  unfold holdsS at hh
  generalize k * x = y at *
  rcases hr with rfl | rfl | rfl
  · simp at hh ⊢; omega
  · simp at hh ⊢; omega
  · simp at hh ⊢; omega
theorem narrow_mem (rel c k : Int) (d : List Rg) (lo hi x : Int) : memL (narrowL rel c k d lo hi) x = (memL (norm d) x && staysP rel c k lo hi x) := by
  unfold narrowL
  rw [canon_mem, memL_norm, inD]
  simp [Bool.and_assoc]
theorem mem_ne_nil {L : List Rg} {x : Int} (h : memL L x = true) : L ≠ [] := by rintro rfl; simp [memL_nil] at h
theorem getD_set (l : Ds) (i j : Nat) (d : List Rg) : (l.set i d).getD j [] = if i = j ∧ j < l.length then d else l.getD j [] := by
  simp only [List.getD_eq_getElem?_getD, List.getElem?_set]
  by_cases h : i = j
  · subst h
    by_cases h2 : i < l.length
    · simp [h2]
    · simp [h2, List.getElem?_eq_none (Nat.le_of_not_lt h2)]
  · simp [h]
theorem onceGo_len (rel c : Int) (ds : Ds) (lo hi : Int) : ∀ (ps : Ps) (out out' : Ds), onceGo rel c ds lo hi ps out = some out' → out'.length = out.length
  | [], _, _, h => by simp [onceGo] at h; rw [h]
  | p :: ps, out, out', h => by
    unfold onceGo at h
    split at h
    · cases h
    · have := onceGo_len rel c ds lo hi ps _ _ h
      simpa using this
theorem onceGo_keeps (rel c : Int) (hr : rel = 1 ∨ rel = 2 ∨ rel = 3) (ds : Ds) (x : List Int) (all : Ps) (hp : Picks ds x all) (hh : holdsL rel c x all = true) :
    ∀ (ps : Ps) (out : Ds), (∀ p ∈ ps, p ∈ all) → (∀ j, j < out.length → memL (out.getD j []) (x.getD j 0) = true) →
      ∃ out', onceGo rel c ds (loS ds all) (hiS ds all) ps out = some out' ∧ ∀ j, j < out.length → memL (out'.getD j []) (x.getD j 0) = true
  | [], out, _, h => ⟨out, rfl, h⟩
  | p :: ps, out, hs, h => by
    have hpm := hs p (by simp)
    obtain ⟨b1, b2⟩ := sum_but ds x all hp p hpm
    have hst := stays_keeps rel c p.1 _ _ (x.getD p.2.toNat 0) (sumX x all) hr b1 b2 hh
    have hm : memL (narrowAt rel c ds (loS ds all) (hiS ds all) p) (x.getD p.2.toNat 0) = true := by
      unfold narrowAt
      rw [narrow_mem, hst, hp p hpm]; rfl
    unfold onceGo
    rw [if_neg (mem_ne_nil hm)]
    have ih := onceGo_keeps rel c hr ds x all hp hh ps (out.set p.2.toNat (narrowAt rel c ds (loS ds all) (hiS ds all) p)) (fun q hq => hs q (by simp [hq])) (fun j hj => by
      rw [getD_set]
      split
      · rename_i hij; rw [← hij.1]; exact hm
      · exact h j (by simpa using hj))
    simpa using ih
theorem getD_map_norm (ds : Ds) (j : Nat) : (ds.map norm).getD j [] = norm (ds.getD j []) := by
  simp only [List.getD_eq_getElem?_getD, List.getElem?_map]
  cases ds[j]? with
  | none => exact (norm_of_normal (show Normal [] from trivial)).symm
  | some d => rfl
theorem once_keeps (rel c : Int) (hr : rel = 1 ∨ rel = 2 ∨ rel = 3) (ds : Ds) (x : List Int) (ps : Ps) (hx : ∀ j, j < ds.length → memL (norm (ds.getD j [])) (x.getD j 0) = true)
    (hv : ∀ p ∈ ps, p.2.toNat < ds.length) (hh : holdsL rel c x ps = true) :
    ∃ out, onceL rel c ds ps = some out ∧ out.length = ds.length ∧ ∀ j, j < ds.length → memL (out.getD j []) (x.getD j 0) = true := by
  have hp : Picks ds x ps := fun p h => hx p.2.toNat (hv p h)
  unfold onceL
  rw [if_pos (picks_ok ds x ps hp)]
  rw [if_neg (by
    rintro ⟨rfl, h⟩
    rw [says_nil] at h
    have : holdsL rel c x [] = holdsS rel c 0 := rfl
    rw [this, h] at hh; cases hh)]
  obtain ⟨out, h1, h2⟩ := onceGo_keeps rel c hr ds x ps hp hh ps (ds.map norm) (fun _ h => h) (fun j hj => by rw [getD_map_norm]; exact hx j (by simpa using hj))
  refine ⟨out, h1, ?_, fun j hj => h2 j (by simpa using hj)⟩
  have := onceGo_len rel c ds _ _ ps _ _ h1
  simpa using this

/-! ### once of smaller domains -/
theorem sums_sub (ds' ds : Ds) : ∀ (ps : Ps), (∀ p ∈ ps, SubD (domOf ds' p.2) (domOf ds p.2)) → allOk ds' ps = true → loS ds ps ≤ loS ds' ps ∧ hiS ds' ps ≤ hiS ds ps
  | [], _, _ => ⟨Int.le_refl _, Int.le_refl _⟩
  | p :: ps, h, ho => by
    simp only [allOk, List.all_cons, Bool.and_eq_true] at ho
    have h1 := sums_sub ds' ds ps (fun q hq => h q (by simp [hq])) ho.2
    have h2 := term_sub p.1 _ _ (h p (by simp)) ho.1
    simp only [loS, hiS, List.map_cons, List.sum_cons] at *
    omega
theorem sums_sub_but (ds' ds : Ds) : ∀ (ps : Ps), (∀ p ∈ ps, SubD (domOf ds' p.2) (domOf ds p.2)) → allOk ds' ps = true → ∀ p ∈ ps,
    loS ds ps - loT p.1 (domOf ds p.2) ≤ loS ds' ps - loT p.1 (domOf ds' p.2) ∧ hiS ds' ps - hiT p.1 (domOf ds' p.2) ≤ hiS ds ps - hiT p.1 (domOf ds p.2)
  | [], _, _, _, h => by cases h
  | q :: ps, h, ho, p, hp => by
    simp only [allOk, List.all_cons, Bool.and_eq_true] at ho
    have hps := fun q hq => h q (List.mem_cons_of_mem _ hq)
    rcases List.mem_cons.1 hp with rfl | hp
    · have h1 := sums_sub ds' ds ps hps ho.2
      simp only [loS, hiS, List.map_cons, List.sum_cons] at *
      omega
    · have h1 := sums_sub_but ds' ds ps hps ho.2 p hp
      have h2 := term_sub q.1 _ _ (h q (by simp)) ho.1
      simp only [loS, hiS, List.map_cons, List.sum_cons] at *
      omega
theorem sums_le_but (ds : Ds) : ∀ (ps : Ps), allOk ds ps = true → loS ds ps ≤ hiS ds ps ∧ ∀ p ∈ ps, loS ds ps - loT p.1 (domOf ds p.2) ≤ hiS ds ps - hiT p.1 (domOf ds p.2)
  | [], _ => ⟨Int.le_refl _, fun _ h => by cases h⟩
  | q :: ps, ho => by
    simp only [allOk, List.all_cons, Bool.and_eq_true] at ho
    obtain ⟨h1, h3⟩ := sums_le_but ds ps ho.2
    have h2 := term_le q.1 _ ho.1
    refine ⟨by simp only [loS, hiS, List.map_cons, List.sum_cons] at *; omega, fun p hp => ?_⟩
    rcases List.mem_cons.1 hp with rfl | hp
    · simp only [loS, hiS, List.map_cons, List.sum_cons] at *; omega
    · have := h3 p hp
      simp only [loS, hiS, List.map_cons, List.sum_cons] at *; omega
theorem stays_sub (rel c k lo hi lo' hi' x : Int) (h1 : lo ≤ lo') (h2 : hi' ≤ hi) (h3 : lo' ≤ hi') (h : staysP rel c k lo' hi' x = true) : staysP rel c k lo hi x = true := by
  unfold staysP at *
  generalize k * x = y at *
  by_cases r3 : rel = 3
  · simp only [if_pos r3, decide_eq_true_eq] at *; omega
  · by_cases r2 : rel = 2
    · simp only [if_neg r3, if_pos r2, Bool.not_eq_true', Bool.and_eq_false_iff, decide_eq_false_iff_not] at *; omega
    · simp only [if_neg r3, if_neg r2, Bool.and_eq_true, decide_eq_true_eq] at *; omega
theorem narrow_sub (rel c : Int) (ds' ds : Ds) (ps : Ps) (h : ∀ p ∈ ps, SubD (domOf ds' p.2) (domOf ds p.2)) (ho : allOk ds' ps = true) (p : Int × Int) (hp : p ∈ ps) (x : Int)
    (hm : memL (narrowAt rel c ds' (loS ds' ps) (hiS ds' ps) p) x = true) : memL (narrowAt rel c ds (loS ds ps) (hiS ds ps) p) x = true := by
  unfold narrowAt at *
  rw [narrow_mem, Bool.and_eq_true] at *
  obtain ⟨a, b⟩ := sums_sub_but ds' ds ps h ho p hp
  exact ⟨h p hp x hm.1, stays_sub rel c p.1 _ _ _ _ x a b ((sums_le_but ds' ps ho).2 p hp) hm.2⟩
theorem narrow_normal (rel c k : Int) (d : List Rg) (lo hi : Int) : Normal (narrowL rel c k d lo hi) := canon_normal _
theorem normal_some {L : List Rg} (h : Normal L) (hne : L ≠ []) : ∃ x, memL L x = true := by
  cases L with
  | nil => exact absurd rfl hne
  | cons r L => exact ⟨r.1, by rw [memL_cons]; have := h.2.1; simp; left; exact this⟩
theorem onceGo_sub (rel c : Int) (ds' ds : Ds) (all : Ps) (h : ∀ p ∈ all, SubD (domOf ds' p.2) (domOf ds p.2)) (ho : allOk ds' all = true) :
    ∀ (ps : Ps) (o' o r' : Ds), (∀ p ∈ ps, p ∈ all) → o'.length = o.length → (∀ j x, memL (o'.getD j []) x = true → memL (o.getD j []) x = true) →
      onceGo rel c ds' (loS ds' all) (hiS ds' all) ps o' = some r' → ∃ r, onceGo rel c ds (loS ds all) (hiS ds all) ps o = some r ∧ ∀ j x, memL (r'.getD j []) x = true → memL (r.getD j []) x = true
  | [], o', o, r', _, _, hs, hr => by simp [onceGo] at hr; subst hr; exact ⟨o, rfl, hs⟩
  | p :: ps, o', o, r', hin, hl, hs, hr => by
    unfold onceGo at hr ⊢
    split at hr
    · cases hr
    · rename_i hne
      have hsub := narrow_sub rel c ds' ds all h ho p (hin p (by simp))
      obtain ⟨x, hx⟩ := normal_some (narrow_normal _ _ _ _ _ _) hne
      rw [if_neg (mem_ne_nil (hsub x hx))]
      refine onceGo_sub rel c ds' ds all h ho ps _ _ r' (fun q hq => hin q (by simp [hq])) (by simpa using hl) (fun j y hy => ?_) hr
      rw [getD_set] at hy ⊢
      by_cases hc : p.2.toNat = j ∧ j < o'.length
      · rw [if_pos hc] at hy; rw [if_pos ⟨hc.1, by omega⟩]; exact hsub y hy
      · rw [if_neg hc] at hy; rw [if_neg (by rw [← hl]; exact hc)]; exact hs j y hy
theorem allOk_sub (ds' ds : Ds) (ps : Ps) (h : ∀ p ∈ ps, SubD (domOf ds' p.2) (domOf ds p.2)) (ho : allOk ds' ps = true) : allOk ds ps = true := by
  unfold allOk at *
  rw [List.all_eq_true] at *
  exact fun p hp => okT_sub _ _ (h p hp) (ho p hp)
theorem once_sub (rel c : Int) (ds' ds : Ds) (ps : Ps) (hl : ds'.length = ds.length) (h : ∀ j, SubD (ds'.getD j []) (ds.getD j [])) (r' : Ds) (hr : onceL rel c ds' ps = some r') :
    ∃ r, onceL rel c ds ps = some r ∧ ∀ j x, memL (r'.getD j []) x = true → memL (r.getD j []) x = true := by
  have h' : ∀ p ∈ ps, SubD (domOf ds' p.2) (domOf ds p.2) := fun p _ => h _
  unfold onceL at *
  split at hr
  · rename_i ho
    rw [if_pos (allOk_sub ds' ds ps h' ho)]
    split at hr
    · cases hr
    · rename_i hn
      rw [if_neg (by
        rintro ⟨rfl, h2⟩
        rw [says_nil] at h2
        exact hn ⟨rfl, (says_nil _ _ _).2 h2⟩)]
      refine onceGo_sub rel c ds' ds ps h' ho ps _ _ r' (fun _ h => h) (by simpa using hl) (fun j x hx => ?_) hr
      rw [getD_map_norm] at *
      exact h j x hx
  · cases hr
theorem once_len (rel c : Int) (ds : Ds) (ps : Ps) (r : Ds) (h : onceL rel c ds ps = some r) : r.length = ds.length := by
  unfold onceL at h
  split at h
  · split at h
    · cases h
    · have := onceGo_len _ _ _ _ _ _ _ _ h
      simpa using this
  · cases h

/-! ### scaled sums -/
theorem loT_scale (c k : Int) (hk : 0 < k) (d : List Rg) : loT (c * k) d = loT c d * k ∧ hiT (c * k) d = hiT c d * k := by
  have hc : c * k < 0 ↔ c < 0 := by
    constructor
    · intro h
      rcases (show c < 0 ∨ 0 ≤ c by omega) with h1 | h1
      · exact h1
      · have := Int.mul_nonneg h1 (Int.le_of_lt hk); omega
    · intro h; exact Int.mul_neg_of_neg_of_pos h hk
  unfold loT hiT
  by_cases h : c < 0
  · rw [if_pos h, if_pos h, if_pos (hc.2 h), if_pos (hc.2 h)]
    exact ⟨Int.mul_right_comm .., Int.mul_right_comm ..⟩
  · rw [if_neg h, if_neg h, if_neg (fun x => h (hc.1 x)), if_neg (fun x => h (hc.1 x))]
    exact ⟨Int.mul_right_comm .., Int.mul_right_comm ..⟩
def scaleP (k : Int) (ps : Ps) : Ps := ps.map fun p => (p.1 * k, p.2)
theorem loS_scale (k : Int) (hk : 0 < k) (ds : Ds) : ∀ ps : Ps, loS ds (scaleP k ps) = loS ds ps * k ∧ hiS ds (scaleP k ps) = hiS ds ps * k
  | [] => by simp [loS, hiS, scaleP]
  | p :: ps => by
    have h1 := loS_scale k hk ds ps
    have h2 := loT_scale p.1 k hk (domOf ds p.2)
    simp only [loS, hiS, scaleP, List.map_cons, List.sum_cons] at *
    rw [h1.1, h1.2, h2.1, h2.2, Int.add_mul, Int.add_mul]
    exact ⟨rfl, rfl⟩
theorem allOk_scale (k : Int) (ds : Ds) (ps : Ps) : allOk ds (scaleP k ps) = allOk ds ps := by
  unfold allOk scaleP; rw [List.all_map]; rfl
theorem lt_scale {k a b : Int} (hk : 0 < k) : a * k < b * k ↔ a < b := ⟨fun h => Int.lt_of_mul_lt_mul_right h (by omega), fun h => Int.mul_lt_mul_of_pos_right h hk⟩
theorem le_scale {k a b : Int} (hk : 0 < k) : a * k ≤ b * k ↔ a ≤ b := ⟨fun h => Int.le_of_mul_le_mul_right h hk, fun h => Int.mul_le_mul_of_nonneg_right h (by omega)⟩
theorem eq_scale {k a b : Int} (hk : 0 < k) : a * k = b * k ↔ a = b := ⟨fun h => Int.eq_of_mul_eq_mul_right (by omega) h, fun h => by rw [h]⟩
theorem says_scale (rel c k : Int) (hk : 0 < k) (ds : Ds) (ps : Ps) : saysL rel (c * k) ds (scaleP k ps) = saysL rel c ds ps := by
  obtain ⟨h1, h2⟩ := loS_scale k hk ds ps
  unfold saysL yesL noL
  simp only [allOk_scale, h1, h2, lt_scale hk, le_scale hk, eq_scale hk]
theorem stays_scale (rel c q k lo hi x : Int) (hk : 0 < k) : staysP rel (c * k) (q * k) (lo * k) (hi * k) x = staysP rel c q lo hi x := by
  have e : c * k - q * k * x = (c - q * x) * k := by rw [Int.sub_mul, Int.mul_right_comm]
  unfold staysP
  simp only [e, le_scale hk, eq_scale hk]
theorem narrow_scale (rel c k : Int) (hk : 0 < k) (ds : Ds) (lo hi : Int) (p : Int × Int) : narrowAt rel (c * k) ds (lo * k) (hi * k) (p.1 * k, p.2) = narrowAt rel c ds lo hi p := by
  unfold narrowAt narrowL
  obtain ⟨h1, h2⟩ := loT_scale p.1 k hk (domOf ds p.2)
  simp only [h1, h2, ← Int.sub_mul, stays_scale _ _ _ _ _ _ _ hk]
theorem onceGo_scale (rel c k : Int) (hk : 0 < k) (ds : Ds) (lo hi : Int) : ∀ (ps : Ps) (o : Ds), onceGo rel (c * k) ds (lo * k) (hi * k) (scaleP k ps) o = onceGo rel c ds lo hi ps o
  | [], _ => rfl
  | p :: ps, o => by
    show onceGo rel (c * k) ds (lo * k) (hi * k) ((p.1 * k, p.2) :: scaleP k ps) o = _
    unfold onceGo
    rw [narrow_scale rel c k hk]
    split
    · rfl
    · exact onceGo_scale rel c k hk ds lo hi ps _
theorem once_scale (rel c k : Int) (hk : 0 < k) (ds : Ds) (ps : Ps) : onceL rel (c * k) ds (scaleP k ps) = onceL rel c ds ps := by
  unfold onceL
  obtain ⟨h1, h2⟩ := loS_scale k hk ds ps
  rw [allOk_scale, says_scale rel c k hk, h1, h2, onceGo_scale rel c k hk]
  have : (scaleP k ps = []) ↔ ps = [] := by simp [scaleP]
  simp only [this]

/-! ### one variable alone -/
theorem once_alone (rel c k : Int) (hr : rel = 1 ∨ rel = 2 ∨ rel = 3) (d : List Rg) :
    onceL rel c [d] [(k, 0)] = (if canon (fun x => memL d x && holdsS rel c (k * x)) = [] then none else some [canon (fun x => memL d x && holdsS rel c (k * x))]) := by
  have e0 : domOf [d] 0 = d := rfl
  have e1 : loS [d] [(k, 0)] = loT k d := by simp [loS, e0]
  have e2 : hiS [d] [(k, 0)] = hiT k d := by simp [hiS, e0]
  have e3 : narrowAt rel c [d] (loT k d) (hiT k d) (k, 0) = canon (fun x => memL d x && holdsS rel c (k * x)) := by
    unfold narrowAt narrowL
    refine canon_congr fun x _ _ => ?_
    simp only [e0, Int.sub_self]
    congr 1
    unfold staysP holdsS
    generalize k * x = y
    rcases hr with rfl | rfl | rfl
    · simp only [show ¬ ((1 : Int) = 3) by decide, show ¬ ((1 : Int) = 2) by decide, if_false]
      by_cases h : y = c
      · subst h; simp
      · have h2 : (decide (0 ≤ c - y) && decide (c - y ≤ 0)) = false := by simp; omega
        rw [h2]; simp [h]
    · simp only [show ¬ ((2 : Int) = 3) by decide, if_true, if_false]
      by_cases h : y = c
      · subst h; simp
      · have h2 : decide (c - y = 0) = false := by simp; omega
        rw [h2]; simp [h]
    · simp only [if_true]
      by_cases h : y ≤ c <;> simp [h] <;> omega
  unfold onceL
  have e4 : allOk [d] [(k, 0)] = okT d := by simp [allOk, e0]
  rw [e4]
  by_cases ho : okT d = true
  · rw [if_pos ho, if_neg (by simp), e1, e2]
    unfold onceGo
    rw [e3]
    split
    · rfl
    · simp [onceGo]
  · rw [if_neg ho, if_pos]
    rw [okT_nil] at ho
    have hn : norm d = [] := by simpa using ho
    refine (is_canon (show Normal [] from trivial) (fun n h1 h2 => ?_)).symm
    have := memL_norm d n
    rw [hn, memL_nil, inD] at this
    simp only [h1, h2, decide_true, Bool.true_and] at this
    rw [memL_nil, ← this]; rfl
end Go.Proofs.Ytkhiogcdamjocaa
