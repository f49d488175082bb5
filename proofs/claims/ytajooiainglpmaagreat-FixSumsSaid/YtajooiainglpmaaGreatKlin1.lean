/-
  PLAIN LAWS of linear sums over sets: what a sum says once, what is sure of it. No program.
  PLAIN LAWS of the reference's Once of layer 15: the others' sum, each other fixed, what is gone. No program.
-/
import Derived.Test.YtajooiainglpmaaGreatKdom1
namespace Go.Proofs.YtajooiainglpmaaGreat

abbrev Ds := List (List Rg)
def domOf (ds : Ds) (v : Int) : List Rg := ds.getD v.toNat []
def loT (c : Int) (d : List Rg) : Int := if c < 0 then c * (endsL (norm d)).2.1 else c * (endsL (norm d)).1
def hiT (c : Int) (d : List Rg) : Int := if c < 0 then c * (endsL (norm d)).1 else c * (endsL (norm d)).2.1
def okT (d : List Rg) : Bool := (endsL (norm d)).2.2
/-- the terms: coefficient and variable -/
abbrev Ps := List (Int × Int)
def loS (ds : Ds) (ps : Ps) : Int := (ps.map fun p => loT p.1 (domOf ds p.2)).sum
def hiS (ds : Ds) (ps : Ps) : Int := (ps.map fun p => hiT p.1 (domOf ds p.2)).sum
def allOk (ds : Ds) (ps : Ps) : Bool := ps.all fun p => okT (domOf ds p.2)
def yesL (rel c lo hi : Int) : Bool := if rel = 3 then decide (hi ≤ c) else if rel = 2 then decide (c < lo) || decide (hi < c) else decide (lo = c) && decide (hi = c)
def noL (rel c lo hi : Int) : Bool := if rel = 3 then decide (c < lo) else if rel = 2 then decide (lo = c) && decide (hi = c) else decide (c < lo) || decide (hi < c)
def saysL (rel c : Int) (ds : Ds) (ps : Ps) : Int :=
  if allOk ds ps = true then (if yesL rel c (loS ds ps) (hiS ds ps) = true then 1 else if noL rel c (loS ds ps) (hiS ds ps) = true then -1 else 0) else 0
def staysP (rel c k lo hi x : Int) : Bool :=
  if rel = 3 then decide (lo ≤ c - k * x) else if rel = 2 then !(decide (lo = hi) && decide (c - k * x = lo)) else decide (lo ≤ c - k * x) && decide (c - k * x ≤ hi)
def narrowL (rel c k : Int) (d : List Rg) (lo hi : Int) : List Rg := canon fun x => memL d x && staysP rel c k lo hi x
def narrowAt (rel c : Int) (ds : Ds) (lo hi : Int) (p : Int × Int) : List Rg :=
  narrowL rel c p.1 (domOf ds p.2) (lo - loT p.1 (domOf ds p.2)) (hi - hiT p.1 (domOf ds p.2))
def onceGo (rel c : Int) (ds : Ds) (lo hi : Int) : Ps → Ds → Option Ds
  | [], out => some out
  | p :: ps, out => if narrowAt rel c ds lo hi p = [] then none else onceGo rel c ds lo hi ps (out.set p.2.toNat (narrowAt rel c ds lo hi p))
def onceL (rel c : Int) (ds : Ds) (ps : Ps) : Option Ds :=
  if allOk ds ps = true then (if ps = [] ∧ saysL rel c ds ps < 1 then none else onceGo rel c ds (loS ds ps) (hiS ds ps) ps (ds.map norm)) else none

/-! ### ends -/
theorem normal_last : ∀ {M : List Rg} {p : Rg} {lo : Int}, NormFrom lo (M ++ [p]) → ∀ n, memL (M ++ [p]) n = true → n ≤ p.2
  | [], p, lo, h, n, hm => by simp [memL] at hm; exact hm.2
  | r :: M, p, lo, h, n, hm => by
    obtain ⟨h1, h2, h3, h4⟩ := h
    rw [List.cons_append, memL_cons, Bool.or_eq_true] at hm
    rcases hm with hm | hm
    · simp at hm
      have := (NormFrom.bounds h4) p (by simp)
      omega
    · exact normal_last h4 n hm
theorem ends_mem (d : List Rg) (x : Int) (h : memL (norm d) x = true) : (endsL (norm d)).1 ≤ x ∧ x ≤ (endsL (norm d)).2.1 ∧ okT d = true := by
  have hN := norm_normal d
  unfold okT
  generalize norm d = L at *
  rcases List.eq_nil_or_concat L with rfl | ⟨M, p, rfl⟩
  · simp [memL_nil] at h
  · rw [List.concat_eq_append] at *
    have h1 := normal_last hN x h
    cases M with
    | nil => simp [memL] at h; exact ⟨h.1, h.2, rfl⟩
    | cons r M =>
      have hl2 : (r :: (M ++ [p])).getLast (by simp) = p := by
        have h1 : (r :: (M ++ [p])).getLast? = some p := List.getLast?_concat (l := r :: M) (a := p)
        rw [List.getLast?_eq_some_getLast (by simp)] at h1
        exact Option.some.inj h1
      refine ⟨?_, ?_, rfl⟩
      · obtain ⟨_, _, _, h4⟩ := hN
        rcases (show r.1 ≤ x ∨ x < r.1 by omega) with h5 | h5
        · exact h5
        · rw [List.cons_append, memL_cons] at h
          have : memL (M ++ [p]) x = false := memL_low (by omega) h4
          rw [this] at h; simp at h; omega
      · show x ≤ ((r :: (M ++ [p])).getLast _).2
        rw [hl2]; exact h1
theorem ends_in (d : List Rg) (h : okT d = true) : memL (norm d) (endsL (norm d)).1 = true ∧ memL (norm d) (endsL (norm d)).2.1 = true := by
  have hN := norm_bounds d
  unfold okT at h
  generalize norm d = L at *
  rcases List.eq_nil_or_concat L with rfl | ⟨M, p, rfl⟩
  · simp [endsL] at h
  · rw [List.concat_eq_append] at *
    have hp := hN p (by simp)
    cases M with
    | nil =>
      show memL [p] p.1 = true ∧ memL [p] p.2 = true
      simp [memL]; omega
    | cons r M =>
      have hr := hN r (by simp)
      have hl2 : (r :: (M ++ [p])).getLast (by simp) = p := by
        have h1 : (r :: (M ++ [p])).getLast? = some p := List.getLast?_concat (l := r :: M) (a := p)
        rw [List.getLast?_eq_some_getLast (by simp)] at h1
        exact Option.some.inj h1
      constructor
      · show memL (r :: (M ++ [p])) r.1 = true
        rw [memL_cons]; simp; left; omega
      · show memL (r :: (M ++ [p])) ((r :: (M ++ [p])).getLast _).2 = true
        rw [hl2, ← List.cons_append, memL_append]
        simp [memL]; right; omega
theorem okT_nil (d : List Rg) : okT d = !decide (norm d = []) := by
  unfold okT
  cases norm d <;> simp [endsL]
theorem ends_bnd (d : List Rg) : -200 ≤ (endsL (norm d)).1 ∧ (endsL (norm d)).1 ≤ 200 ∧ -200 ≤ (endsL (norm d)).2.1 ∧ (endsL (norm d)).2.1 ≤ 200 := by
  cases h : okT d with
  | true =>
    obtain ⟨a, b⟩ := ends_in d h
    have := memL_bounds (norm_normal d) a
    have := memL_bounds (norm_normal d) b
    omega
  | false =>
    rw [okT_nil] at h
    simp at h
    rw [h]; simp [endsL]

/-! ### sums -/
theorem mul_le_neg {c a b : Int} (h : c < 0) (h1 : a ≤ b) : c * b ≤ c * a := Int.mul_le_mul_of_nonpos_left (by omega) h1
theorem mul_le_pos {c a b : Int} (h : ¬ c < 0) (h1 : a ≤ b) : c * a ≤ c * b := Int.mul_le_mul_of_nonneg_left h1 (by omega)
theorem term_in (c : Int) (d : List Rg) (x : Int) (h : memL (norm d) x = true) : loT c d ≤ c * x ∧ c * x ≤ hiT c d := by
  obtain ⟨h1, h2, _⟩ := ends_mem d x h
  unfold loT hiT
  by_cases hc : c < 0
  · rw [if_pos hc, if_pos hc]; exact ⟨mul_le_neg hc h2, mul_le_neg hc h1⟩
  · rw [if_neg hc, if_neg hc]; exact ⟨mul_le_pos hc h1, mul_le_pos hc h2⟩
theorem term_le (c : Int) (d : List Rg) (h : okT d = true) : loT c d ≤ hiT c d := by
  obtain ⟨a, _⟩ := ends_in d h
  have := term_in c d _ a
  omega
/-- smaller domains: the term's ends move inwards -/
def SubD (d' d : List Rg) : Prop := ∀ x, memL (norm d') x = true → memL (norm d) x = true
theorem term_sub (c : Int) (d' d : List Rg) (hs : SubD d' d) (h : okT d' = true) : loT c d ≤ loT c d' ∧ hiT c d' ≤ hiT c d := by
  obtain ⟨a, b⟩ := ends_in d' h
  have h1 := term_in c d _ (hs _ a)
  have h2 := term_in c d _ (hs _ b)
  unfold loT hiT at *
  by_cases hc : c < 0
  · simp only [if_pos hc] at *; omega
  · simp only [if_neg hc] at *; omega
theorem okT_sub (d' d : List Rg) (hs : SubD d' d) (h : okT d' = true) : okT d = true := (ends_mem d _ (hs _ (ends_in d' h).1)).2.2

def sumX (x : List Int) (ps : Ps) : Int := (ps.map fun p => p.1 * x.getD p.2.toNat 0).sum
/-- x picks of each domain of a term -/
def Picks (ds : Ds) (x : List Int) (ps : Ps) : Prop := ∀ p ∈ ps, memL (norm (domOf ds p.2)) (x.getD p.2.toNat 0) = true
theorem sum_in (ds : Ds) (x : List Int) : ∀ (ps : Ps), Picks ds x ps → loS ds ps ≤ sumX x ps ∧ sumX x ps ≤ hiS ds ps
  | [], _ => ⟨Int.le_refl _, Int.le_refl _⟩
  | p :: ps, h => by
    have h1 := sum_in ds x ps (fun q hq => h q (by simp [hq]))
    have h2 := term_in p.1 _ _ (h p (by simp))
    simp only [loS, hiS, sumX, List.map_cons, List.sum_cons] at *
    omega
theorem sum_but (ds : Ds) (x : List Int) : ∀ (ps : Ps), Picks ds x ps → ∀ p ∈ ps,
    loS ds ps - loT p.1 (domOf ds p.2) ≤ sumX x ps - p.1 * x.getD p.2.toNat 0 ∧ sumX x ps - p.1 * x.getD p.2.toNat 0 ≤ hiS ds ps - hiT p.1 (domOf ds p.2)
  | [], _, _, h => by cases h
  | q :: ps, h, p, hp => by
    have hps : Picks ds x ps := fun q hq => h q (by simp [hq])
    rcases List.mem_cons.1 hp with rfl | hp
    · have h1 := sum_in ds x ps hps
      simp only [loS, hiS, sumX, List.map_cons, List.sum_cons] at *
      omega
    · have h1 := sum_but ds x ps hps p hp
      have h2 := term_in q.1 _ _ (h q (by simp))
      simp only [loS, hiS, sumX, List.map_cons, List.sum_cons] at *
      omega
theorem picks_ok (ds : Ds) (x : List Int) (ps : Ps) (h : Picks ds x ps) : allOk ds ps = true := by
  unfold allOk
  rw [List.all_eq_true]
  exact fun p hp => (ends_mem _ _ (h p hp)).2.2
def holdsS (rel c s : Int) : Bool := if rel = 3 then decide (s ≤ c) else if rel = 2 then decide (s ≠ c) else decide (s = c)
def holdsL (rel c : Int) (x : List Int) (ps : Ps) : Bool := holdsS rel c (sumX x ps)
/-- what is sure holds -/
theorem says_sure (rel c : Int) (ds : Ds) (x : List Int) (ps : Ps) (h : Picks ds x ps) :
    (saysL rel c ds ps = 1 → holdsL rel c x ps = true) ∧ (saysL rel c ds ps = -1 → holdsL rel c x ps = false) := by
  have h1 := sum_in ds x ps h
  unfold saysL holdsL holdsS
  rw [if_pos (picks_ok ds x ps h)]
  generalize loS ds ps = lo at *
  generalize hiS ds ps = hi at *
  generalize sumX x ps = s at *
  unfold yesL noL
  by_cases r3 : rel = 3
  · simp only [if_pos r3]
    by_cases a : hi ≤ c
    · simp [a]; omega
    · by_cases b : c < lo
      · simp [a, b]; omega
      · simp [a, b]
  · by_cases r2 : rel = 2
    · simp only [if_neg r3, if_pos r2]
      by_cases a : c < lo ∨ hi < c
      · have : (decide (c < lo) || decide (hi < c)) = true := by simpa using a
        simp [this]; omega
      · have : (decide (c < lo) || decide (hi < c)) = false := by simp; omega
        by_cases b : lo = c ∧ hi = c
        · simp [b.1, b.2]; omega
        · have h3 : (decide (lo = c) && decide (hi = c)) = false := by simp; omega
          simp [this, h3]
    · simp only [if_neg r3, if_neg r2]
      by_cases b : lo = c ∧ hi = c
      · simp [b.1, b.2]; omega
      · have h3 : (decide (lo = c) && decide (hi = c)) = false := by simp; omega
        by_cases a : c < lo ∨ hi < c
        · have : (decide (c < lo) || decide (hi < c)) = true := by simpa using a
          simp [this, h3]; omega
        · have : (decide (c < lo) || decide (hi < c)) = false := by simp; omega
          simp [this, h3]
theorem says_vals (rel c : Int) (ds : Ds) (ps : Ps) : saysL rel c ds ps = 1 ∨ saysL rel c ds ps = 0 ∨ saysL rel c ds ps = -1 := by
  unfold saysL
  split
  · split
    · exact .inl rfl
    · split
      · exact .inr (.inr rfl)
      · exact .inr (.inl rfl)
  · exact .inr (.inl rfl)
theorem says_nil (rel c : Int) (ds : Ds) : (saysL rel c ds [] < 1) ↔ holdsS rel c 0 = false := by
  unfold saysL holdsS yesL noL
  simp only [allOk, List.all_nil, if_true, loS, hiS, List.map_nil, List.sum_nil]
  by_cases r3 : rel = 3
  · simp only [if_pos r3]
    by_cases a : 0 ≤ c
    · simp [a]
    · simp [a]; split <;> omega
  · by_cases r2 : rel = 2
    · simp only [if_neg r3, if_pos r2]
      by_cases a : c = 0
      · subst a; simp
      · have : (decide (c < 0) || decide (0 < c)) = true := by simp; omega
        simp [this]; omega
    · simp only [if_neg r3, if_neg r2]
      by_cases a : c = 0
      · subst a; simp
      · have h3 : (decide ((0 : Int) = c) && decide ((0 : Int) = c)) = false := by simp; omega
        simp
        constructor
        · intro _; omega
        · intro _; split <;> omega

/-! ### once: nothing is lost -/
theorem stays_keeps (rel c k lo hi x s : Int) (hr : rel = 1 ∨ rel = 2 ∨ rel = 3) (h1 : lo ≤ s - k * x) (h2 : s - k * x ≤ hi) (hh : holdsS rel c s = true) : staysP rel c k lo hi x = true := by
  unfold staysP
  unfold holdsS at hh
  generalize k * x = y at *
  rcases hr with rfl | rfl | rfl
  · simp at hh ⊢; omega
  · simp at hh ⊢; omega
  · simp at hh ⊢; omega
theorem narrow_mem (rel c k : Int) (d : List Rg) (lo hi x : Int) : memL (narrowL rel c k d lo hi) x = (memL (norm d) x && staysP rel c k lo hi x) := by
  unfold narrowL
  rw [canon_mem, memL_norm, inD]
  simp [Bool.and_assoc]
theorem mem_ne_nil {L : List Rg} {x : Int} (h : memL L x = true) : L ≠ [] := by rintro rfl; simp [memL_nil] at h
theorem getD_set (l : Ds) (i j : Nat) (d : List Rg) : (l.set i d).getD j [] = if i = j ∧ j < l.length then d else l.getD j [] := by
  simp only [List.getD_eq_getElem?_getD, List.getElem?_set]
  by_cases h : i = j
  · subst h
    by_cases h2 : i < l.length
    · simp [h2]
    · simp [h2]
  · simp [h]
theorem onceGo_len (rel c : Int) (ds : Ds) (lo hi : Int) : ∀ (ps : Ps) (out out' : Ds), onceGo rel c ds lo hi ps out = some out' → out'.length = out.length
  | [], _, _, h => by simp [onceGo] at h; rw [h]
  | p :: ps, out, out', h => by
    unfold onceGo at h
    split at h
    · cases h
    · have := onceGo_len rel c ds lo hi ps _ _ h
      simpa using this
theorem onceGo_keeps (rel c : Int) (hr : rel = 1 ∨ rel = 2 ∨ rel = 3) (ds : Ds) (x : List Int) (all : Ps) (hp : Picks ds x all) (hh : holdsL rel c x all = true) :
    ∀ (ps : Ps) (out : Ds), (∀ p ∈ ps, p ∈ all) → (∀ j, j < out.length → memL (out.getD j []) (x.getD j 0) = true) →
      ∃ out', onceGo rel c ds (loS ds all) (hiS ds all) ps out = some out' ∧ ∀ j, j < out.length → memL (out'.getD j []) (x.getD j 0) = true
  | [], out, _, h => ⟨out, rfl, h⟩
  | p :: ps, out, hs, h => by
    have hpm := hs p (by simp)
    obtain ⟨b1, b2⟩ := sum_but ds x all hp p hpm
    have hst := stays_keeps rel c p.1 _ _ (x.getD p.2.toNat 0) (sumX x all) hr b1 b2 hh
    have hm : memL (narrowAt rel c ds (loS ds all) (hiS ds all) p) (x.getD p.2.toNat 0) = true := by
      unfold narrowAt
      rw [narrow_mem, hst, hp p hpm]; rfl
    unfold onceGo
    rw [if_neg (mem_ne_nil hm)]
    have ih := onceGo_keeps rel c hr ds x all hp hh ps (out.set p.2.toNat (narrowAt rel c ds (loS ds all) (hiS ds all) p)) (fun q hq => hs q (by simp [hq])) (fun j hj => by
      rw [getD_set]
      split
      · rename_i hij; rw [← hij.1]; exact hm
      · exact h j (by simpa using hj))
    simpa using ih
theorem getD_map_norm (ds : Ds) (j : Nat) : (ds.map norm).getD j [] = norm (ds.getD j []) := by
  simp only [List.getD_eq_getElem?_getD, List.getElem?_map]
  cases ds[j]? with
  | none => exact (norm_of_normal (show Normal [] from trivial)).symm
  | some d => rfl
theorem once_keeps (rel c : Int) (hr : rel = 1 ∨ rel = 2 ∨ rel = 3) (ds : Ds) (x : List Int) (ps : Ps) (hx : ∀ j, j < ds.length → memL (norm (ds.getD j [])) (x.getD j 0) = true)
    (hv : ∀ p ∈ ps, p.2.toNat < ds.length) (hh : holdsL rel c x ps = true) :
    ∃ out, onceL rel c ds ps = some out ∧ out.length = ds.length ∧ ∀ j, j < ds.length → memL (out.getD j []) (x.getD j 0) = true := by
  have hp : Picks ds x ps := fun p h => hx p.2.toNat (hv p h)
  unfold onceL
  rw [if_pos (picks_ok ds x ps hp)]
  rw [if_neg (by
    rintro ⟨rfl, h⟩
    rw [says_nil] at h
    have : holdsL rel c x [] = holdsS rel c 0 := rfl
    rw [this, h] at hh; cases hh)]
  obtain ⟨out, h1, h2⟩ := onceGo_keeps rel c hr ds x ps hp hh ps (ds.map norm) (fun _ h => h) (fun j hj => by rw [getD_map_norm]; exact hx j (by simpa using hj))
  refine ⟨out, h1, ?_, fun j hj => h2 j (by simpa using hj)⟩
  have := onceGo_len rel c ds _ _ ps _ _ h1
  simpa using this

/-! ### once of smaller domains -/
theorem sums_sub (ds' ds : Ds) : ∀ (ps : Ps), (∀ p ∈ ps, SubD (domOf ds' p.2) (domOf ds p.2)) → allOk ds' ps = true → loS ds ps ≤ loS ds' ps ∧ hiS ds' ps ≤ hiS ds ps
  | [], _, _ => ⟨Int.le_refl _, Int.le_refl _⟩
  | p :: ps, h, ho => by
    simp only [allOk, List.all_cons, Bool.and_eq_true] at ho
    have h1 := sums_sub ds' ds ps (fun q hq => h q (by simp [hq])) ho.2
    have h2 := term_sub p.1 _ _ (h p (by simp)) ho.1
    simp only [loS, hiS, List.map_cons, List.sum_cons] at *
    omega
theorem sums_sub_but (ds' ds : Ds) : ∀ (ps : Ps), (∀ p ∈ ps, SubD (domOf ds' p.2) (domOf ds p.2)) → allOk ds' ps = true → ∀ p ∈ ps,
    loS ds ps - loT p.1 (domOf ds p.2) ≤ loS ds' ps - loT p.1 (domOf ds' p.2) ∧ hiS ds' ps - hiT p.1 (domOf ds' p.2) ≤ hiS ds ps - hiT p.1 (domOf ds p.2)
  | [], _, _, _, h => by cases h
  | q :: ps, h, ho, p, hp => by
    simp only [allOk, List.all_cons, Bool.and_eq_true] at ho
    have hps := fun q hq => h q (List.mem_cons_of_mem _ hq)
    rcases List.mem_cons.1 hp with rfl | hp
    · have h1 := sums_sub ds' ds ps hps ho.2
      simp only [loS, hiS, List.map_cons, List.sum_cons] at *
      omega
    · have h1 := sums_sub_but ds' ds ps hps ho.2 p hp
      have h2 := term_sub q.1 _ _ (h q (by simp)) ho.1
      simp only [loS, hiS, List.map_cons, List.sum_cons] at *
      omega
theorem sums_le_but (ds : Ds) : ∀ (ps : Ps), allOk ds ps = true → loS ds ps ≤ hiS ds ps ∧ ∀ p ∈ ps, loS ds ps - loT p.1 (domOf ds p.2) ≤ hiS ds ps - hiT p.1 (domOf ds p.2)
  | [], _ => ⟨Int.le_refl _, fun _ h => by cases h⟩
  | q :: ps, ho => by
    simp only [allOk, List.all_cons, Bool.and_eq_true] at ho
    obtain ⟨h1, h3⟩ := sums_le_but ds ps ho.2
    have h2 := term_le q.1 _ ho.1
    refine ⟨by simp only [loS, hiS, List.map_cons, List.sum_cons] at *; omega, fun p hp => ?_⟩
    rcases List.mem_cons.1 hp with rfl | hp
    · simp only [loS, hiS, List.map_cons, List.sum_cons] at *; omega
    · have := h3 p hp
      simp only [loS, hiS, List.map_cons, List.sum_cons] at *; omega
theorem stays_sub (rel c k lo hi lo' hi' x : Int) (h1 : lo ≤ lo') (h2 : hi' ≤ hi) (h3 : lo' ≤ hi') (h : staysP rel c k lo' hi' x = true) : staysP rel c k lo hi x = true := by
  unfold staysP at *
  generalize k * x = y at *
  by_cases r3 : rel = 3
  · simp only [if_pos r3, decide_eq_true_eq] at *; omega
  · by_cases r2 : rel = 2
    · simp only [if_neg r3, if_pos r2, Bool.not_eq_true', Bool.and_eq_false_iff, decide_eq_false_iff_not] at *; omega
    · simp only [if_neg r3, if_neg r2, Bool.and_eq_true, decide_eq_true_eq] at *; omega
theorem narrow_sub (rel c : Int) (ds' ds : Ds) (ps : Ps) (h : ∀ p ∈ ps, SubD (domOf ds' p.2) (domOf ds p.2)) (ho : allOk ds' ps = true) (p : Int × Int) (hp : p ∈ ps) (x : Int)
    (hm : memL (narrowAt rel c ds' (loS ds' ps) (hiS ds' ps) p) x = true) : memL (narrowAt rel c ds (loS ds ps) (hiS ds ps) p) x = true := by
  unfold narrowAt at *
  rw [narrow_mem, Bool.and_eq_true] at *
  obtain ⟨a, b⟩ := sums_sub_but ds' ds ps h ho p hp
  exact ⟨h p hp x hm.1, stays_sub rel c p.1 _ _ _ _ x a b ((sums_le_but ds' ps ho).2 p hp) hm.2⟩
theorem narrow_normal (rel c k : Int) (d : List Rg) (lo hi : Int) : Normal (narrowL rel c k d lo hi) := canon_normal _
theorem normal_some {L : List Rg} (h : Normal L) (hne : L ≠ []) : ∃ x, memL L x = true := by
  cases L with
  | nil => exact absurd rfl hne
  | cons r L => exact ⟨r.1, by rw [memL_cons]; have := h.2.1; simp; left; exact this⟩
theorem onceGo_sub (rel c : Int) (ds' ds : Ds) (all : Ps) (h : ∀ p ∈ all, SubD (domOf ds' p.2) (domOf ds p.2)) (ho : allOk ds' all = true) :
    ∀ (ps : Ps) (o' o r' : Ds), (∀ p ∈ ps, p ∈ all) → o'.length = o.length → (∀ j x, memL (o'.getD j []) x = true → memL (o.getD j []) x = true) →
      onceGo rel c ds' (loS ds' all) (hiS ds' all) ps o' = some r' → ∃ r, onceGo rel c ds (loS ds all) (hiS ds all) ps o = some r ∧ ∀ j x, memL (r'.getD j []) x = true → memL (r.getD j []) x = true
  | [], o', o, r', _, _, hs, hr => by simp [onceGo] at hr; subst hr; exact ⟨o, rfl, hs⟩
  | p :: ps, o', o, r', hin, hl, hs, hr => by
    unfold onceGo at hr ⊢
    split at hr
    · cases hr
    · rename_i hne
      have hsub := narrow_sub rel c ds' ds all h ho p (hin p (by simp))
      obtain ⟨x, hx⟩ := normal_some (narrow_normal _ _ _ _ _ _) hne
      rw [if_neg (mem_ne_nil (hsub x hx))]
      refine onceGo_sub rel c ds' ds all h ho ps _ _ r' (fun q hq => hin q (by simp [hq])) (by simpa using hl) (fun j y hy => ?_) hr
      rw [getD_set] at hy ⊢
      by_cases hc : p.2.toNat = j ∧ j < o'.length
      · rw [if_pos hc] at hy; rw [if_pos ⟨hc.1, by omega⟩]; exact hsub y hy
      · rw [if_neg hc] at hy; rw [if_neg (by rw [← hl]; exact hc)]; exact hs j y hy
theorem allOk_sub (ds' ds : Ds) (ps : Ps) (h : ∀ p ∈ ps, SubD (domOf ds' p.2) (domOf ds p.2)) (ho : allOk ds' ps = true) : allOk ds ps = true := by
  unfold allOk at *
  rw [List.all_eq_true] at *
  exact fun p hp => okT_sub _ _ (h p hp) (ho p hp)
theorem once_sub (rel c : Int) (ds' ds : Ds) (ps : Ps) (hl : ds'.length = ds.length) (h : ∀ j, SubD (ds'.getD j []) (ds.getD j [])) (r' : Ds) (hr : onceL rel c ds' ps = some r') :
    ∃ r, onceL rel c ds ps = some r ∧ ∀ j x, memL (r'.getD j []) x = true → memL (r.getD j []) x = true := by
  have h' : ∀ p ∈ ps, SubD (domOf ds' p.2) (domOf ds p.2) := fun p _ => h _
  unfold onceL at *
  split at hr
  · rename_i ho
    rw [if_pos (allOk_sub ds' ds ps h' ho)]
    split at hr
    · cases hr
    · rename_i hn
      rw [if_neg (by
        rintro ⟨rfl, h2⟩
        rw [says_nil] at h2
        exact hn ⟨rfl, (says_nil _ _ _).2 h2⟩)]
      refine onceGo_sub rel c ds' ds ps h' ho ps _ _ r' (fun _ h => h) (by simpa using hl) (fun j x hx => ?_) hr
      rw [getD_map_norm] at *
      exact h j x hx
  · cases hr
theorem once_len (rel c : Int) (ds : Ds) (ps : Ps) (r : Ds) (h : onceL rel c ds ps = some r) : r.length = ds.length := by
  unfold onceL at h
  split at h
  · split at h
    · cases h
    · have := onceGo_len _ _ _ _ _ _ _ _ h
      simpa using this
  · cases h

/-! ### scaled sums -/
theorem loT_scale (c k : Int) (hk : 0 < k) (d : List Rg) : loT (c * k) d = loT c d * k ∧ hiT (c * k) d = hiT c d * k := by
  have hc : c * k < 0 ↔ c < 0 := by
    constructor
    · intro h
      rcases (show c < 0 ∨ 0 ≤ c by omega) with h1 | h1
      · exact h1
      · have := Int.mul_nonneg h1 (Int.le_of_lt hk); omega
    · intro h; exact Int.mul_neg_of_neg_of_pos h hk
  unfold loT hiT
  by_cases h : c < 0
  · rw [if_pos h, if_pos h, if_pos (hc.2 h), if_pos (hc.2 h)]
    exact ⟨Int.mul_right_comm .., Int.mul_right_comm ..⟩
  · rw [if_neg h, if_neg h, if_neg (fun x => h (hc.1 x)), if_neg (fun x => h (hc.1 x))]
    exact ⟨Int.mul_right_comm .., Int.mul_right_comm ..⟩
def scaleP (k : Int) (ps : Ps) : Ps := ps.map fun p => (p.1 * k, p.2)
theorem loS_scale (k : Int) (hk : 0 < k) (ds : Ds) : ∀ ps : Ps, loS ds (scaleP k ps) = loS ds ps * k ∧ hiS ds (scaleP k ps) = hiS ds ps * k
  | [] => by simp [loS, hiS, scaleP]
  | p :: ps => by
    have h1 := loS_scale k hk ds ps
    have h2 := loT_scale p.1 k hk (domOf ds p.2)
    simp only [loS, hiS, scaleP, List.map_cons, List.sum_cons] at *
    rw [h1.1, h1.2, h2.1, h2.2, Int.add_mul, Int.add_mul]
    exact ⟨rfl, rfl⟩
theorem allOk_scale (k : Int) (ds : Ds) (ps : Ps) : allOk ds (scaleP k ps) = allOk ds ps := by
  unfold allOk scaleP; rw [List.all_map]; rfl
theorem lt_scale {k a b : Int} (hk : 0 < k) : a * k < b * k ↔ a < b := ⟨fun h => Int.lt_of_mul_lt_mul_right h (by omega), fun h => Int.mul_lt_mul_of_pos_right h hk⟩
theorem le_scale {k a b : Int} (hk : 0 < k) : a * k ≤ b * k ↔ a ≤ b := ⟨fun h => Int.le_of_mul_le_mul_right h hk, fun h => Int.mul_le_mul_of_nonneg_right h (by omega)⟩
theorem eq_scale {k a b : Int} (hk : 0 < k) : a * k = b * k ↔ a = b := ⟨fun h => Int.eq_of_mul_eq_mul_right (by omega) h, fun h => by rw [h]⟩
theorem says_scale (rel c k : Int) (hk : 0 < k) (ds : Ds) (ps : Ps) : saysL rel (c * k) ds (scaleP k ps) = saysL rel c ds ps := by
  obtain ⟨h1, h2⟩ := loS_scale k hk ds ps
  unfold saysL yesL noL
  simp only [allOk_scale, h1, h2, lt_scale hk, le_scale hk, eq_scale hk]
theorem stays_scale (rel c q k lo hi x : Int) (hk : 0 < k) : staysP rel (c * k) (q * k) (lo * k) (hi * k) x = staysP rel c q lo hi x := by
  have e : c * k - q * k * x = (c - q * x) * k := by rw [Int.sub_mul, Int.mul_right_comm]
  unfold staysP
  simp only [e, le_scale hk, eq_scale hk]
theorem narrow_scale (rel c k : Int) (hk : 0 < k) (ds : Ds) (lo hi : Int) (p : Int × Int) : narrowAt rel (c * k) ds (lo * k) (hi * k) (p.1 * k, p.2) = narrowAt rel c ds lo hi p := by
  unfold narrowAt narrowL
  obtain ⟨h1, h2⟩ := loT_scale p.1 k hk (domOf ds p.2)
  simp only [h1, h2, ← Int.sub_mul, stays_scale _ _ _ _ _ _ _ hk]
theorem onceGo_scale (rel c k : Int) (hk : 0 < k) (ds : Ds) (lo hi : Int) : ∀ (ps : Ps) (o : Ds), onceGo rel (c * k) ds (lo * k) (hi * k) (scaleP k ps) o = onceGo rel c ds lo hi ps o
  | [], _ => rfl
  | p :: ps, o => by
    show onceGo rel (c * k) ds (lo * k) (hi * k) ((p.1 * k, p.2) :: scaleP k ps) o = _
    unfold onceGo
    rw [narrow_scale rel c k hk]
    split
    · rfl
    · exact onceGo_scale rel c k hk ds lo hi ps _
theorem once_scale (rel c k : Int) (hk : 0 < k) (ds : Ds) (ps : Ps) : onceL rel (c * k) ds (scaleP k ps) = onceL rel c ds ps := by
  unfold onceL
  obtain ⟨h1, h2⟩ := loS_scale k hk ds ps
  rw [allOk_scale, says_scale rel c k hk, h1, h2, onceGo_scale rel c k hk]
  have : (scaleP k ps = []) ↔ ps = [] := by simp [scaleP]
  simp only [this]

/-! ### one variable alone -/
theorem once_alone (rel c k : Int) (hr : rel = 1 ∨ rel = 2 ∨ rel = 3) (d : List Rg) :
    onceL rel c [d] [(k, 0)] = (if canon (fun x => memL d x && holdsS rel c (k * x)) = [] then none else some [canon (fun x => memL d x && holdsS rel c (k * x))]) := by
  have e0 : domOf [d] 0 = d := rfl
  have e1 : loS [d] [(k, 0)] = loT k d := by simp [loS, e0]
  have e2 : hiS [d] [(k, 0)] = hiT k d := by simp [hiS, e0]
  have e3 : narrowAt rel c [d] (loT k d) (hiT k d) (k, 0) = canon (fun x => memL d x && holdsS rel c (k * x)) := by
    unfold narrowAt narrowL
    refine canon_congr fun x _ _ => ?_
    simp only [e0, Int.sub_self]
    congr 1
    unfold staysP holdsS
    generalize k * x = y
    rcases hr with rfl | rfl | rfl
    · simp only [show ¬ ((1 : Int) = 3) by decide, show ¬ ((1 : Int) = 2) by decide, if_false]
      by_cases h : y = c
      · subst h; simp
      · have h2 : (decide (0 ≤ c - y) && decide (c - y ≤ 0)) = false := by simp; omega
        rw [h2]; simp [h]
    · simp only [show ¬ ((2 : Int) = 3) by decide, if_true, if_false]
      by_cases h : y = c
      · subst h; simp
      · have h2 : decide (c - y = 0) = false := by simp; omega
        rw [h2]; simp [h]
    · simp only [if_true]
      by_cases h : y ≤ c <;> simp [h] <;> omega
  unfold onceL
  have e4 : allOk [d] [(k, 0)] = okT d := by simp [allOk, e0]
  rw [e4]
  by_cases ho : okT d = true
  · rw [if_pos ho, if_neg (by simp), e1, e2]
    unfold onceGo
    rw [e3]
    split
    · rfl
    · simp [onceGo]
  · rw [if_neg ho, if_pos]
    rw [okT_nil] at ho
    have hn : norm d = [] := by simpa using ho
    refine (is_canon (show Normal [] from trivial) (fun n h1 h2 => ?_)).symm
    have := memL_norm d n
    rw [hn, memL_nil, inD] at this
    simp only [h1, h2, decide_true, Bool.true_and] at this
    rw [memL_nil, ← this]; rfl
end Go.Proofs.YtajooiainglpmaaGreat
namespace Go.Proofs.YtajooiainglpmaaGreat

/-- a list without one place (whatever the place), of its first k -/
def butL (l : List Int) (i : Int) (k : Nat) : List Int := if 0 ≤ i then (l.take k).eraseIdx i.toNat else l.take k
theorem butL_zero (l : List Int) (i : Int) : butL l i 0 = [] := by unfold butL; split <;> simp
theorem butL_step (l : List Int) (i : Int) (k : Nat) (hk : k < l.length) : butL l i (k + 1) = butL l i k ++ (if (k : Int) = i then [] else [l[k]]) := by
  unfold butL
  have hl : (l.take k).length = k := by rw [List.length_take]; omega
  rw [List.take_succ_eq_append_getElem hk]
  by_cases h0 : 0 ≤ i
  · rw [if_pos h0, if_pos h0]
    rcases Int.lt_trichotomy (k : Int) i with h | h | h
    · rw [if_neg (by omega), List.eraseIdx_of_length_le (by rw [List.length_append, hl]; simp; omega), List.eraseIdx_of_length_le (by omega)]
    · rw [if_pos h, List.eraseIdx_append_of_length_le (by omega), show i.toNat - (l.take k).length = 0 by omega, List.eraseIdx_of_length_le (l := l.take k) (by omega)]; rfl
    · rw [if_neg (by omega), List.eraseIdx_append_of_lt_length (by omega)]
  · rw [if_neg h0, if_neg h0, if_neg (by omega)]
theorem butL_len (l : List Int) (i : Int) (k : Nat) : (butL l i k).length ≤ l.length := by
  unfold butL
  split
  · refine Nat.le_trans (List.length_eraseIdx_le ..) ?_
    rw [List.length_take]; omega
  · rw [List.length_take]; omega
theorem butL_all (l : List Int) (k : Nat) : butL l (k : Int) l.length = l.eraseIdx k := by
  unfold butL; rw [if_pos (by omega), List.take_length]; rfl
theorem butL_none (l : List Int) : butL l (-1) l.length = l := by
  unfold butL; rw [if_neg (by omega), List.take_length]
theorem butL_mem (l : List Int) (i : Int) (k : Nat) : ∀ x ∈ butL l i k, x ∈ l := fun x h => by
  unfold butL at h
  split at h
  · exact List.mem_of_mem_take (List.mem_of_mem_eraseIdx h)
  · exact List.mem_of_mem_take h
theorem zip_erase : ∀ (a b : List Int) (k : Nat), a.length = b.length → (a.eraseIdx k).zip (b.eraseIdx k) = (a.zip b).eraseIdx k
  | [], [], _, _ => by simp
  | x :: a, y :: b, 0, h => by simp
  | x :: a, y :: b, k + 1, h => by simp [zip_erase a b k (by simpa using h)]
  | [], _ :: _, _, h => by simp at h
  | _ :: _, [], _, h => by simp at h
theorem sum_erase (f : Int × Int → Int) : ∀ (ps : Ps) (k : Nat) (hk : k < ps.length), ((ps.eraseIdx k).map f).sum = (ps.map f).sum - f ps[k]
  | p :: ps, 0, _ => by simp; omega
  | p :: ps, k + 1, h => by
    have := sum_erase f ps k (by simpa using h)
    simp only [List.eraseIdx_cons_succ, List.map_cons, List.sum_cons, List.getElem_cons_succ, this]; omega
theorem loS_erase (ds : Ds) (ps : Ps) (k : Nat) (hk : k < ps.length) : loS ds (ps.eraseIdx k) = loS ds ps - loT ps[k].1 (domOf ds ps[k].2) := sum_erase (fun p => loT p.1 (domOf ds p.2)) ps k hk
theorem hiS_erase (ds : Ds) (ps : Ps) (k : Nat) (hk : k < ps.length) : hiS ds (ps.eraseIdx k) = hiS ds ps - hiT ps[k].1 (domOf ds ps[k].2) := sum_erase (fun p => hiT p.1 (domOf ds p.2)) ps k hk
theorem allOk_erase (ds : Ds) (ps : Ps) (k : Nat) (h : allOk ds ps = true) : allOk ds (ps.eraseIdx k) = true := by
  unfold allOk at *
  rw [List.all_eq_true] at *
  exact fun p hp => h p (List.mem_of_mem_eraseIdx hp)

/-! ### just one integer -/
def fixedB (ds : Ds) (ps : Ps) : Bool := ps.all fun p => decide (sizeL (norm (domOf ds p.2)) = 1)
theorem mul_left_cancel' {c a b : Int} (hc : c ≠ 0) (h : c * a = c * b) : a = b := Int.eq_of_mul_eq_mul_left hc h
theorem one_ends (d : List Rg) (h : okT d = true) : sizeL (norm d) = 1 ↔ (endsL (norm d)).1 = (endsL (norm d)).2.1 := by
  obtain ⟨a, b⟩ := ends_in d h
  have hN := norm_normal d
  have hB := norm_bounds d
  constructor
  · intro h1
    have hs : ∀ x, memL (norm d) x = true → ∀ y, memL (norm d) y = true → x = y := by
      generalize norm d = L at *
      cases L with
      | nil => simp [sizeL] at h1
      | cons r L =>
        have h2 := hB r (by simp)
        have h3 := sizeL_pos L (fun q hq => (hB q (by simp [hq])).2.1)
        simp only [sizeL] at h1
        have h4 : sizeL L = 0 := by omega
        have h5 := h3.2 h4
        subst h5
        intro x hx y hy
        simp [memL] at hx hy
        omega
    exact hs _ a _ b
  · intro h1
    have e : norm d = [((endsL (norm d)).1, (endsL (norm d)).1)] := by
      have hb := ends_bnd d
      refine normal_unique hN (show Normal _ from ⟨by dsimp only; omega, Int.le_refl _, by dsimp only; omega, trivial⟩) (fun n => ?_)
      rw [Bool.eq_iff_iff]
      constructor
      · intro hn
        have := ends_mem d n hn
        simp [memL]; omega
      · intro hn
        simp [memL] at hn
        have : n = (endsL (norm d)).1 := by omega
        rw [this]; exact a
    rw [e]; simp [sizeL]
theorem one_term (c : Int) (d : List Rg) (hc : c ≠ 0) (h : okT d = true) : sizeL (norm d) = 1 ↔ loT c d = hiT c d := by
  rw [one_ends d h]
  unfold loT hiT
  by_cases h0 : c < 0
  · rw [if_pos h0, if_pos h0]
    exact ⟨fun e => by rw [e], fun e => (mul_left_cancel' hc e).symm⟩
  · rw [if_neg h0, if_neg h0]
    exact ⟨fun e => by rw [e], fun e => mul_left_cancel' hc e⟩
theorem fixed_sum (ds : Ds) : ∀ ps : Ps, (∀ p ∈ ps, p.1 ≠ 0) → allOk ds ps = true → loS ds ps ≤ hiS ds ps ∧ fixedB ds ps = decide (loS ds ps = hiS ds ps)
  | [], _, _ => ⟨Int.le_refl _, rfl⟩
  | p :: ps, hz, ho => by
    simp only [allOk, List.all_cons, Bool.and_eq_true] at ho
    obtain ⟨h1, h2⟩ := fixed_sum ds ps (fun q hq => hz q (by simp [hq])) ho.2
    have h3 := term_le p.1 _ ho.1
    have h4 := one_term p.1 _ (hz p (by simp)) ho.1
    simp only [loS, hiS, fixedB, List.map_cons, List.sum_cons, List.all_cons] at *
    refine ⟨by omega, ?_⟩
    rw [h2]
    rw [Bool.eq_iff_iff, Bool.and_eq_true]
    constructor
    · rintro ⟨a, b⟩
      have a := h4.1 (of_decide_eq_true a)
      have b := of_decide_eq_true b
      exact decide_eq_true (by omega)
    · intro a
      have a := of_decide_eq_true a
      exact ⟨decide_eq_true (h4.2 (by omega)), decide_eq_true (by omega)⟩

/-! ### what stays -/
def staysR (rel c k lo hi : Int) (one : Bool) (x : Int) : Bool :=
  if rel = 3 then decide (lo ≤ c - k * x) else if rel = 1 then decide (lo ≤ c - k * x) && decide (c - k * x ≤ hi) else !one || !decide (c - k * x = lo)
theorem staysR_eq (rel c k lo hi x : Int) (hr : rel = 1 ∨ rel = 2 ∨ rel = 3) : staysR rel c k lo hi (decide (lo = hi)) x = staysP rel c k lo hi x := by
  unfold staysR staysP
  rcases hr with rfl | rfl | rfl
  · simp
  · simp
  · simp
/-- of the integers of a list, range by range, those that p takes, one by one -/
def runG (p : Int → Bool) (lo : Int) : Nat → List Rg
  | 0 => []
  | n + 1 => runG p lo n ++ (if p (lo + n) = true then [(lo + n, lo + n)] else [])
def goneL (p : Int → Bool) (D : List Rg) : List Rg := D.flatMap fun r => runG p r.1 (r.2 + 1 - r.1).toNat
theorem runG_mem (p : Int → Bool) (lo : Int) : ∀ (n : Nat) (x : Int), memL (runG p lo n) x = (decide (lo ≤ x) && decide (x < lo + n) && p x)
  | 0, x => by
    simp only [runG, memL_nil]
    have : (decide (lo ≤ x) && decide (x < lo + (0 : Nat))) = false := by
      rw [Bool.and_eq_false_iff]; by_cases h : lo ≤ x <;> simp [h]
    rw [this]; rfl
  | n + 1, x => by
    rw [runG, memL_append, runG_mem p lo n x]
    by_cases hx : x = lo + n
    · subst hx
      have e1 : decide (lo + (n : Int) < lo + n) = false := by simp
      have e2 : decide (lo ≤ lo + (n : Int)) = true := by simp; omega
      have e3 : decide (lo + (n : Int) < lo + ((n + 1 : Nat) : Int)) = true := by simp; omega
      rw [e1, e2, e3]
      by_cases hp : p (lo + n) = true
      · rw [if_pos hp, hp]; simp [memL]
      · rw [if_neg hp]; simp [memL]; simpa using hp
    · have e1 : memL (if p (lo + n) = true then [(lo + (n : Int), lo + (n : Int))] else []) x = false := by
        split
        · simp [memL]; omega
        · rfl
      rw [e1, Bool.or_false]
      congr 2
      rw [Bool.eq_iff_iff]; simp; omega
theorem memL_flatMap {α : Type} (f : α → List Rg) (x : Int) : ∀ D : List α, memL (D.flatMap f) x = D.any fun r => memL (f r) x
  | [] => rfl
  | r :: D => by rw [List.flatMap_cons, memL_append, memL_flatMap f x D]; rfl
theorem goneL_mem (p : Int → Bool) (D : List Rg) (x : Int) : memL (goneL p D) x = (memL D x && p x) := by
  unfold goneL
  rw [memL_flatMap]
  unfold memL
  induction D with
  | nil => rfl
  | cons r D ih =>
    rw [List.any_cons, List.any_cons, ih]
    have h1 := runG_mem p r.1 (r.2 + 1 - r.1).toNat x
    unfold memL at h1
    have h2 : (decide (r.1 ≤ x) && decide (x < r.1 + ((r.2 + 1 - r.1).toNat : Int))) = (decide (r.1 ≤ x) && decide (x ≤ r.2)) := by
      rw [Bool.eq_iff_iff]; simp; omega
    rw [h1, h2]
    generalize (decide (r.1 ≤ x) && decide (x ≤ r.2)) = u
    generalize (D.any fun r => decide (r.1 ≤ x) && decide (x ≤ r.2)) = v
    cases u <;> cases v <;> cases p x <;> rfl
theorem runG_len (p : Int → Bool) (lo : Int) : ∀ n : Nat, (runG p lo n).length ≤ n
  | 0 => by simp [runG]
  | n + 1 => by
    have := runG_len p lo n
    rw [runG, List.length_append]
    split <;> simp <;> omega
theorem goneL_len (p : Int → Bool) : ∀ D : List Rg, (∀ r ∈ D, r.1 ≤ r.2) → ((goneL p D).length : Int) ≤ sizeL D
  | [], _ => by simp [goneL, sizeL]
  | r :: D, h => by
    have ih := goneL_len p D (fun q hq => h q (by simp [hq]))
    have h1 := runG_len p r.1 (r.2 + 1 - r.1).toNat
    have h2 := h r (by simp)
    simp only [goneL, List.flatMap_cons, List.length_append, sizeL] at *
    omega
theorem runG_in (p : Int → Bool) (lo : Int) : ∀ (n : Nat), ∀ q ∈ runG p lo n, lo ≤ q.2 ∧ q.2 < lo + n
  | 0, q, h => by simp [runG] at h
  | n + 1, q, h => by
    rw [runG] at h
    rcases List.mem_append.1 h with h | h
    · have := runG_in p lo n q h; omega
    · split at h
      · simp at h; subst h; dsimp only; omega
      · simp at h
theorem goneL_bnd (p : Int → Bool) (D : List Rg) (h : ∀ q ∈ D, -200 ≤ q.1 ∧ q.1 ≤ q.2 ∧ q.2 ≤ 200) : ∀ r ∈ goneL p D, -200 ≤ r.2 ∧ r.2 ≤ 200 := fun r hr => by
  obtain ⟨q, hq, h1⟩ := List.mem_flatMap.1 hr
  have h2 := runG_in p q.1 _ r h1
  have h3 := h q hq
  omega
theorem goneL_step (p : Int → Bool) (D : List Rg) (j : Nat) (hj : j < D.length) : goneL p (D.take (j + 1)) = goneL p (D.take j) ++ runG p D[j].1 (D[j].2 + 1 - D[j].1).toNat := by
  rw [List.take_succ_eq_append_getElem hj]
  unfold goneL
  rw [List.flatMap_append, List.flatMap_cons, List.flatMap_nil, List.append_nil]
/-- single ranges, joined -/
def glue (out : List Rg) (r : Rg) : List Rg :=
  match out.getLast? with
  | some p => if p.2 + 1 = r.1 then out.dropLast ++ [(p.1, r.2)] else out ++ [r]
  | none => out ++ [r]
def glueL (G : List Rg) : List Rg := G.foldl glue []
theorem glueL_snoc (G : List Rg) (r : Rg) : glueL (G ++ [r]) = glue (glueL G) r := by unfold glueL; rw [List.foldl_append]; rfl
theorem glue_nil (r : Rg) : glue [] r = [r] := rfl
theorem glue_snoc (M : List Rg) (p r : Rg) : glue (M ++ [p]) r = if p.2 + 1 = r.1 then M ++ [(p.1, r.2)] else M ++ [p] ++ [r] := by
  unfold glue; simp
theorem glue_len (out : List Rg) (r : Rg) : (glue out r).length ≤ out.length + 1 := by
  rcases List.eq_nil_or_concat out with rfl | ⟨M, p, rfl⟩
  · simp [glue_nil]
  · rw [List.concat_eq_append, glue_snoc]; split <;> simp
theorem glueL_len (G : List Rg) : (glueL G).length ≤ G.length := by
  suffices h : ∀ (G out : List Rg), (G.foldl glue out).length ≤ out.length + G.length by simpa [glueL] using h G []
  intro G
  induction G with
  | nil => intro out; simp
  | cons r G ih =>
    intro out
    have h1 := ih (glue out r)
    have h2 := glue_len out r
    simp only [List.foldl_cons, List.length_cons]; omega
/-- ranges that are not empty, and whose last one is -/
theorem glue_mem (out : List Rg) (r : Rg) (hr : r.1 = r.2) (ho : ∀ q ∈ out, q.1 ≤ q.2) : (∀ x, memL (glue out r) x = (memL out x || memL [r] x)) ∧ ∀ q ∈ glue out r, q.1 ≤ q.2 := by
  rcases List.eq_nil_or_concat out with rfl | ⟨M, p, rfl⟩
  · rw [glue_nil]; exact ⟨fun x => by simp [memL], fun q hq => by simp at hq; subst hq; omega⟩
  · rw [List.concat_eq_append] at *
    have hp := ho p (by simp)
    rw [glue_snoc]
    split
    · rename_i h
      refine ⟨fun x => ?_, fun q hq => ?_⟩
      · rw [memL_append, memL_append, Bool.or_assoc]
        congr 1
        simp only [memL, List.any_cons, List.any_nil, Bool.or_false]
        rw [Bool.eq_iff_iff]; simp; omega
      · rcases List.mem_append.1 hq with h1 | h1
        · exact ho q (by simp [h1])
        · simp at h1; subst h1; dsimp only; omega
    · refine ⟨fun x => by rw [memL_append], fun q hq => ?_⟩
      rcases List.mem_append.1 hq with h1 | h1
      · exact ho q h1
      · simp at h1; subst h1; omega
theorem glueL_mem : ∀ (G : List Rg), (∀ r ∈ G, r.1 = r.2) → (∀ x, memL (glueL G) x = memL G x) ∧ ∀ q ∈ glueL G, q.1 ≤ q.2 := by
  suffices h : ∀ (G out : List Rg), (∀ r ∈ G, r.1 = r.2) → (∀ q ∈ out, q.1 ≤ q.2) → (∀ x, memL (G.foldl glue out) x = (memL out x || memL G x)) ∧ ∀ q ∈ G.foldl glue out, q.1 ≤ q.2 from
    fun G hG => by simpa [glueL, memL_nil] using h G [] hG (by simp)
  intro G
  induction G with
  | nil => intro out _ ho; exact ⟨fun x => by simp [memL_nil], ho⟩
  | cons r G ih =>
    intro out hG ho
    obtain ⟨h1, h2⟩ := glue_mem out r (hG r (by simp)) ho
    obtain ⟨h3, h4⟩ := ih (glue out r) (fun q hq => hG q (by simp [hq])) h2
    refine ⟨fun x => ?_, h4⟩
    rw [List.foldl_cons, h3, h1, Bool.or_assoc, ← memL_append]; rfl
theorem goneL_single (p : Int → Bool) (D : List Rg) : ∀ r ∈ goneL p D, r.1 = r.2 := fun r hr => by
  obtain ⟨q, _, h⟩ := List.mem_flatMap.1 hr
  revert h
  generalize (q.2 + 1 - q.1).toNat = n
  induction n with
  | zero => intro h; simp [runG] at h
  | succ n ih =>
    intro h
    rw [runG] at h
    rcases List.mem_append.1 h with h | h
    · exact ih h
    · split at h
      · simp at h; subst h; rfl
      · simp at h
theorem glueL_bnd : ∀ (G : List Rg), (∀ r ∈ G, -200 ≤ r.2 ∧ r.2 ≤ 200) → ∀ q ∈ glueL G, -200 ≤ q.2 ∧ q.2 ≤ 200 := by
  suffices h : ∀ (G out : List Rg), (∀ r ∈ G, -200 ≤ r.2 ∧ r.2 ≤ 200) → (∀ q ∈ out, -200 ≤ q.2 ∧ q.2 ≤ 200) → ∀ q ∈ G.foldl glue out, -200 ≤ q.2 ∧ q.2 ≤ 200 from
    fun G hG => h G [] hG (by simp)
  intro G
  induction G with
  | nil => intro out _ ho; exact ho
  | cons r G ih =>
    intro out hG ho
    refine ih (glue out r) (fun q hq => hG q (by simp [hq])) (fun q hq => ?_)
    have hr := hG r (by simp)
    rcases List.eq_nil_or_concat out with rfl | ⟨M, p, rfl⟩
    · rw [glue_nil] at hq; simp at hq; subst hq; exact hr
    · rw [List.concat_eq_append] at *
      rw [glue_snoc] at hq
      split at hq
      · rcases List.mem_append.1 hq with h1 | h1
        · exact ho q (by simp [h1])
        · simp at h1; subst h1; exact hr
      · rcases List.mem_append.1 hq with h1 | h1
        · exact ho q h1
        · simp at h1; subst h1; exact hr
/-- what is left, by the reference's way -/
def leftR (D : List Rg) (p : Int → Bool) : List Rg := if goneL p D = [] then D else minusL D (norm (glueL (goneL p D)))
theorem leftR_eq (D : List Rg) (hD : Normal D) (st : Int → Bool) : leftR D (fun x => !st x) = canon fun x => memL D x && st x := by
  unfold leftR
  by_cases h : goneL (fun x => !st x) D = []
  · rw [if_pos h]
    refine is_canon hD (fun n _ _ => ?_)
    have := goneL_mem (fun x => !st x) D n
    rw [h, memL_nil] at this
    cases h1 : memL D n <;> cases h2 : st n <;> simp [h1, h2] at this ⊢
  · rw [if_neg h]
    unfold minusL
    refine canon_congr fun n h1 h2 => ?_
    rw [memL_norm, (glueL_mem _ (goneL_single _ D)).1, goneL_mem]
    simp only [inD, h1, h2, decide_true, Bool.true_and]
    cases memL D n <;> cases st n <;> rfl
/-- the step of the reference is the step of onceGo -/
theorem left_narrow (rel c : Int) (hr : rel = 1 ∨ rel = 2 ∨ rel = 3) (ds : Ds) (ps : Ps) (k : Nat) (hk : k < ps.length) (hz : ∀ p ∈ ps, p.1 ≠ 0) (ho : allOk ds ps = true) :
    leftR (norm (domOf ds ps[k].2)) (fun x => !staysR rel c ps[k].1 (loS ds (ps.eraseIdx k)) (hiS ds (ps.eraseIdx k)) (fixedB ds (ps.eraseIdx k)) x) = narrowAt rel c ds (loS ds ps) (hiS ds ps) ps[k] := by
  rw [leftR_eq _ (norm_normal _)]
  have h1 := (fixed_sum ds (ps.eraseIdx k) (fun p hp => hz p (List.mem_of_mem_eraseIdx hp)) (allOk_erase ds ps k ho)).2
  rw [h1]
  unfold narrowAt narrowL
  refine canon_congr fun n h1 h2 => ?_
  rw [staysR_eq _ _ _ _ _ _ hr, loS_erase ds ps k hk, hiS_erase ds ps k hk, memL_norm]
  simp [inD, h1, h2]
end Go.Proofs.YtajooiainglpmaaGreat
