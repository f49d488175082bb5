/-
  PLAIN LAWS of the reference's Once of layer 15: the others' sum, each other fixed, what is gone. No program.
-/
import Derived.Test.YtmmogifmogdegaaLinP
namespace Go.Proofs.Ytmmogifmogdegaa

/-- a list without one place (whatever the place), of its first k -/
def butL (l : List Int) (i : Int) (k : Nat) : List Int := if 0 ≤ i then (l.take k).eraseIdx i.toNat else l.take k
theorem butL_zero (l : List Int) (i : Int) : butL l i 0 = [] := by unfold butL; split <;> simp
theorem butL_step (l : List Int) (i : Int) (k : Nat) (hk : k < l.length) : butL l i (k + 1) = butL l i k ++ (if (k : Int) = i then [] else [l[k]]) := by
  unfold butL
  have hl : (l.take k).length = k := by rw [List.length_take]; omega
  rw [List.take_succ_eq_append_getElem hk]
  by_cases h0 : 0 ≤ i
  · rw [if_pos h0, if_pos h0]
    rcases Int.lt_trichotomy (k : Int) i with h | h | h
    · rw [if_neg (by omega), List.eraseIdx_of_length_le (by rw [List.length_append, hl]; simp; omega), List.eraseIdx_of_length_le (by omega)]
    · rw [if_pos h, List.eraseIdx_append_of_length_le (by omega), show i.toNat - (l.take k).length = 0 by omega, List.eraseIdx_of_length_le (l := l.take k) (by omega)]; rfl
    · rw [if_neg (by omega), List.eraseIdx_append_of_lt_length (by omega)]
  · rw [if_neg h0, if_neg h0, if_neg (by omega)]
theorem butL_len (l : List Int) (i : Int) (k : Nat) : (butL l i k).length ≤ l.length := by
  unfold butL
  split
  · refine Nat.le_trans (List.length_eraseIdx_le ..) ?_
    rw [List.length_take]; omega
  · rw [List.length_take]; omega
theorem butL_all (l : List Int) (k : Nat) : butL l (k : Int) l.length = l.eraseIdx k := by
  unfold butL; rw [if_pos (by omega), List.take_length]; rfl
theorem butL_none (l : List Int) : butL l (-1) l.length = l := by
  unfold butL; rw [if_neg (by omega), List.take_length]
theorem butL_mem (l : List Int) (i : Int) (k : Nat) : ∀ x ∈ butL l i k, x ∈ l := fun x h => by
  unfold butL at h
  split at h
  · exact List.mem_of_mem_take (List.mem_of_mem_eraseIdx h)
  · exact List.mem_of_mem_take h
theorem zip_erase : ∀ (a b : List Int) (k : Nat), a.length = b.length → (a.eraseIdx k).zip (b.eraseIdx k) = (a.zip b).eraseIdx k
  | [], [], _, _ => by simp
  | x :: a, y :: b, 0, h => by simp
  | x :: a, y :: b, k + 1, h => by simp [zip_erase a b k (by simpa using h)]
  | [], _ :: _, _, h => by simp at h
  | _ :: _, [], _, h => by simp at h
theorem sum_erase (f : Int × Int → Int) : ∀ (ps : Ps) (k : Nat) (hk : k < ps.length), ((ps.eraseIdx k).map f).sum = (ps.map f).sum - f ps[k]
  | p :: ps, 0, _ => by simp; omega
  | p :: ps, k + 1, h => by
    have := sum_erase f ps k (by simpa using h)
    simp only [List.eraseIdx_cons_succ, List.map_cons, List.sum_cons, List.getElem_cons_succ, this]; omega
theorem loS_erase (ds : Ds) (ps : Ps) (k : Nat) (hk : k < ps.length) : loS ds (ps.eraseIdx k) = loS ds ps - loT ps[k].1 (domOf ds ps[k].2) := sum_erase (fun p => loT p.1 (domOf ds p.2)) ps k hk
theorem hiS_erase (ds : Ds) (ps : Ps) (k : Nat) (hk : k < ps.length) : hiS ds (ps.eraseIdx k) = hiS ds ps - hiT ps[k].1 (domOf ds ps[k].2) := sum_erase (fun p => hiT p.1 (domOf ds p.2)) ps k hk
theorem allOk_erase (ds : Ds) (ps : Ps) (k : Nat) (h : allOk ds ps = true) : allOk ds (ps.eraseIdx k) = true := by
  unfold allOk at *
  rw [List.all_eq_true] at *
  exact fun p hp => h p (List.mem_of_mem_eraseIdx hp)

/-! ### just one integer -/
def fixedB (ds : Ds) (ps : Ps) : Bool := ps.all fun p => decide (sizeL (norm (domOf ds p.2)) = 1)
theorem mul_left_cancel' {c a b : Int} (hc : c ≠ 0) (h : c * a = c * b) : a = b := Int.eq_of_mul_eq_mul_left hc h
theorem one_ends (d : List Rg) (h : okT d = true) : sizeL (norm d) = 1 ↔ (endsL (norm d)).1 = (endsL (norm d)).2.1 := by
  obtain ⟨a, b⟩ := ends_in d h
  have hN := norm_normal d
  have hB := norm_bounds d
  constructor
  · intro h1
    have hs : ∀ x, memL (norm d) x = true → ∀ y, memL (norm d) y = true → x = y := by
      generalize norm d = L at *
      cases L with
      | nil => simp [sizeL] at h1
      | cons r L =>
        have h2 := hB r (by simp)
        have h3 := sizeL_pos L (fun q hq => (hB q (by simp [hq])).2.1)
        simp only [sizeL] at h1
        have h4 : sizeL L = 0 := by omega
        have h5 := h3.2 h4
        subst h5
        intro x hx y hy
        simp [memL] at hx hy
        omega
    exact hs _ a _ b
  · intro h1
    have e : norm d = [((endsL (norm d)).1, (endsL (norm d)).1)] := by
      have hb := ends_bnd d
      refine normal_unique hN (show Normal _ from ⟨by dsimp only; omega, Int.le_refl _, by dsimp only; omega, trivial⟩) (fun n => ?_)
      rw [Bool.eq_iff_iff]
      constructor
      · intro hn
        have := ends_mem d n hn
        simp [memL]; omega
      · intro hn
        simp [memL] at hn
        have : n = (endsL (norm d)).1 := by omega
        rw [this]; exact a
    rw [e]; simp [sizeL]
theorem one_term (c : Int) (d : List Rg) (hc : c ≠ 0) (h : okT d = true) : sizeL (norm d) = 1 ↔ loT c d = hiT c d := by
  rw [one_ends d h]
  unfold loT hiT
  by_cases h0 : c < 0
  · rw [if_pos h0, if_pos h0]
    exact ⟨fun e => by rw [e], fun e => (mul_left_cancel' hc e).symm⟩
  · rw [if_neg h0, if_neg h0]
    exact ⟨fun e => by rw [e], fun e => mul_left_cancel' hc e⟩
theorem fixed_sum (ds : Ds) : ∀ ps : Ps, (∀ p ∈ ps, p.1 ≠ 0) → allOk ds ps = true → loS ds ps ≤ hiS ds ps ∧ fixedB ds ps = decide (loS ds ps = hiS ds ps)
  | [], _, _ => ⟨Int.le_refl _, rfl⟩
  | p :: ps, hz, ho => by
    simp only [allOk, List.all_cons, Bool.and_eq_true] at ho
    obtain ⟨h1, h2⟩ := fixed_sum ds ps (fun q hq => hz q (by simp [hq])) ho.2
    have h3 := term_le p.1 _ ho.1
    have h4 := one_term p.1 _ (hz p (by simp)) ho.1
    simp only [loS, hiS, fixedB, List.map_cons, List.sum_cons, List.all_cons] at *
    refine ⟨by omega, ?_⟩
    rw [h2]
    rw [Bool.eq_iff_iff, Bool.and_eq_true]
    constructor
    · rintro ⟨a, b⟩
      have a := h4.1 (of_decide_eq_true a)
      have b := of_decide_eq_true b
      exact decide_eq_true (by omega)
    · intro a
      have a := of_decide_eq_true a
      exact ⟨decide_eq_true (h4.2 (by omega)), decide_eq_true (by omega)⟩

/-! ### what stays -/
def staysR (rel c k lo hi : Int) (one : Bool) (x : Int) : Bool :=
  if rel = 3 then decide (lo ≤ c - k * x) else if rel = 1 then decide (lo ≤ c - k * x) && decide (c - k * x ≤ hi) else !one || !decide (c - k * x = lo)
theorem staysR_eq (rel c k lo hi x : Int) (hr : rel = 1 ∨ rel = 2 ∨ rel = 3) : staysR rel c k lo hi (decide (lo = hi)) x = staysP rel c k lo hi x := by
  unfold staysR staysP
  rcases hr with rfl | rfl | rfl
  · simp
  · simp
  · simp
/-- of the integers of a list, range by range, those that p takes, one by one -/
def runG (p : Int → Bool) (lo : Int) : Nat → List Rg
  | 0 => []
  | n + 1 => runG p lo n ++ (if p (lo + n) = true then [(lo + n, lo + n)] else [])
def goneL (p : Int → Bool) (D : List Rg) : List Rg := D.flatMap fun r => runG p r.1 (r.2 + 1 - r.1).toNat
theorem runG_mem (p : Int → Bool) (lo : Int) : ∀ (n : Nat) (x : Int), memL (runG p lo n) x = (decide (lo ≤ x) && decide (x < lo + n) && p x)
  | 0, x => by
    simp only [runG, memL_nil]
    have : (decide (lo ≤ x) && decide (x < lo + (0 : Nat))) = false := by
      rw [Bool.and_eq_false_iff]; by_cases h : lo ≤ x <;> simp [h]
    rw [this]; rfl
  | n + 1, x => by
    rw [runG, memL_append, runG_mem p lo n x]
    by_cases hx : x = lo + n
    · subst hx
      have e1 : decide (lo + (n : Int) < lo + n) = false := by simp
      have e2 : decide (lo ≤ lo + (n : Int)) = true := by simp; omega
      have e3 : decide (lo + (n : Int) < lo + ((n + 1 : Nat) : Int)) = true := by simp; omega
      rw [e1, e2, e3]
      by_cases hp : p (lo + n) = true
      · rw [if_pos hp, hp]; simp [memL]
      · rw [if_neg hp]; simp [memL]; simpa using hp
    · have e1 : memL (if p (lo + n) = true then [(lo + (n : Int), lo + (n : Int))] else []) x = false := by
        split
        · simp [memL]; omega
        · rfl
      rw [e1, Bool.or_false]
      congr 2
      rw [Bool.eq_iff_iff]; simp; omega
theorem memL_flatMap {α : Type} (f : α → List Rg) (x : Int) : ∀ D : List α, memL (D.flatMap f) x = D.any fun r => memL (f r) x
  | [] => rfl
  | r :: D => by rw [List.flatMap_cons, memL_append, memL_flatMap f x D]; rfl
theorem goneL_mem (p : Int → Bool) (D : List Rg) (x : Int) : memL (goneL p D) x = (memL D x && p x) := by
  unfold goneL
  rw [memL_flatMap]
  unfold memL
  induction D with
  | nil => rfl
  | cons r D ih =>
    rw [List.any_cons, List.any_cons, ih]
    have h1 := runG_mem p r.1 (r.2 + 1 - r.1).toNat x
    unfold memL at h1
    have h2 : (decide (r.1 ≤ x) && decide (x < r.1 + ((r.2 + 1 - r.1).toNat : Int))) = (decide (r.1 ≤ x) && decide (x ≤ r.2)) := by
      rw [Bool.eq_iff_iff]; simp; omega
    rw [h1, h2]
    generalize (decide (r.1 ≤ x) && decide (x ≤ r.2)) = u
    generalize (D.any fun r => decide (r.1 ≤ x) && decide (x ≤ r.2)) = v
    cases u <;> cases v <;> cases p x <;> rfl
theorem runG_len (p : Int → Bool) (lo : Int) : ∀ n : Nat, (runG p lo n).length ≤ n
  | 0 => by simp [runG]
  | n + 1 => by
    have := runG_len p lo n
    rw [runG, List.length_append]
    split <;> simp <;> omega
theorem goneL_len (p : Int → Bool) : ∀ D : List Rg, (∀ r ∈ D, r.1 ≤ r.2) → ((goneL p D).length : Int) ≤ sizeL D
  | [], _ => by simp [goneL, sizeL]
  | r :: D, h => by
    have ih := goneL_len p D (fun q hq => h q (by simp [hq]))
    have h1 := runG_len p r.1 (r.2 + 1 - r.1).toNat
    have h2 := h r (by simp)
    simp only [goneL, List.flatMap_cons, List.length_append, sizeL] at *
    omega
theorem runG_in (p : Int → Bool) (lo : Int) : ∀ (n : Nat), ∀ q ∈ runG p lo n, lo ≤ q.2 ∧ q.2 < lo + n
  | 0, q, h => by simp [runG] at h
  | n + 1, q, h => by
    rw [runG] at h
    rcases List.mem_append.1 h with h | h
    · have := runG_in p lo n q h; omega
    · split at h
      · simp at h; subst h; dsimp only; omega
      · simp at h
theorem goneL_bnd (p : Int → Bool) (D : List Rg) (h : ∀ q ∈ D, -200 ≤ q.1 ∧ q.1 ≤ q.2 ∧ q.2 ≤ 200) : ∀ r ∈ goneL p D, -200 ≤ r.2 ∧ r.2 ≤ 200 := fun r hr => by
  obtain ⟨q, hq, h1⟩ := List.mem_flatMap.1 hr
  have h2 := runG_in p q.1 _ r h1
  have h3 := h q hq
  omega
theorem goneL_step (p : Int → Bool) (D : List Rg) (j : Nat) (hj : j < D.length) : goneL p (D.take (j + 1)) = goneL p (D.take j) ++ runG p D[j].1 (D[j].2 + 1 - D[j].1).toNat := by
  rw [List.take_succ_eq_append_getElem hj]
  unfold goneL
  rw [List.flatMap_append, List.flatMap_cons, List.flatMap_nil, List.append_nil]
/-- single ranges, joined -/
def glue (out : List Rg) (r : Rg) : List Rg :=
  match out.getLast? with
  | some p => if p.2 + 1 = r.1 then out.dropLast ++ [(p.1, r.2)] else out ++ [r]
  | none => out ++ [r]
def glueL (G : List Rg) : List Rg := G.foldl glue []
theorem glueL_snoc (G : List Rg) (r : Rg) : glueL (G ++ [r]) = glue (glueL G) r := by unfold glueL; rw [List.foldl_append]; rfl
theorem glue_nil (r : Rg) : glue [] r = [r] := rfl
theorem glue_snoc (M : List Rg) (p r : Rg) : glue (M ++ [p]) r = if p.2 + 1 = r.1 then M ++ [(p.1, r.2)] else M ++ [p] ++ [r] := by
  unfold glue; simp
theorem glue_len (out : List Rg) (r : Rg) : (glue out r).length ≤ out.length + 1 := by
  rcases List.eq_nil_or_concat out with rfl | ⟨M, p, rfl⟩
  · simp [glue_nil]
  · rw [List.concat_eq_append, glue_snoc]; split <;> simp
theorem glueL_len (G : List Rg) : (glueL G).length ≤ G.length := by
  suffices h : ∀ (G out : List Rg), (G.foldl glue out).length ≤ out.length + G.length by simpa [glueL] using h G []
  intro G
  induction G with
  | nil => intro out; simp
  | cons r G ih =>
    intro out
    have h1 := ih (glue out r)
    have h2 := glue_len out r
    simp only [List.foldl_cons, List.length_cons]; omega
/-- ranges that are not empty, and whose last one is -/
theorem glue_mem (out : List Rg) (r : Rg) (hr : r.1 = r.2) (ho : ∀ q ∈ out, q.1 ≤ q.2) : (∀ x, memL (glue out r) x = (memL out x || memL [r] x)) ∧ ∀ q ∈ glue out r, q.1 ≤ q.2 := by
  rcases List.eq_nil_or_concat out with rfl | ⟨M, p, rfl⟩
  · rw [glue_nil]; exact ⟨fun x => by simp [memL], fun q hq => by simp at hq; subst hq; omega⟩
  · rw [List.concat_eq_append] at *
    have hp := ho p (by simp)
    rw [glue_snoc]
    split
    · rename_i h
      refine ⟨fun x => ?_, fun q hq => ?_⟩
      · rw [memL_append, memL_append, Bool.or_assoc]
        congr 1
        simp only [memL, List.any_cons, List.any_nil, Bool.or_false]
        rw [Bool.eq_iff_iff]; simp; omega
      · rcases List.mem_append.1 hq with h1 | h1
        · exact ho q (by simp [h1])
        · simp at h1; subst h1; dsimp only; omega
    · refine ⟨fun x => by rw [memL_append], fun q hq => ?_⟩
      rcases List.mem_append.1 hq with h1 | h1
      · exact ho q h1
      · simp at h1; subst h1; omega
theorem glueL_mem : ∀ (G : List Rg), (∀ r ∈ G, r.1 = r.2) → (∀ x, memL (glueL G) x = memL G x) ∧ ∀ q ∈ glueL G, q.1 ≤ q.2 := by
  suffices h : ∀ (G out : List Rg), (∀ r ∈ G, r.1 = r.2) → (∀ q ∈ out, q.1 ≤ q.2) → (∀ x, memL (G.foldl glue out) x = (memL out x || memL G x)) ∧ ∀ q ∈ G.foldl glue out, q.1 ≤ q.2 from
    fun G hG => by simpa [glueL, memL_nil] using h G [] hG (by simp)
  intro G
  induction G with
  | nil => intro out _ ho; exact ⟨fun x => by simp [memL_nil], ho⟩
  | cons r G ih =>
    intro out hG ho
    obtain ⟨h1, h2⟩ := glue_mem out r (hG r (by simp)) ho
    obtain ⟨h3, h4⟩ := ih (glue out r) (fun q hq => hG q (by simp [hq])) h2
    refine ⟨fun x => ?_, h4⟩
    rw [List.foldl_cons, h3, h1, Bool.or_assoc, ← memL_append]; rfl
theorem goneL_single (p : Int → Bool) (D : List Rg) : ∀ r ∈ goneL p D, r.1 = r.2 := fun r hr => by
  obtain ⟨q, _, h⟩ := List.mem_flatMap.1 hr
  revert h
  generalize (q.2 + 1 - q.1).toNat = n
  induction n with
  | zero => intro h; simp [runG] at h
  | succ n ih =>
    intro h
    rw [runG] at h
    rcases List.mem_append.1 h with h | h
    · exact ih h
    · split at h
      · simp at h; subst h; rfl
      · simp at h
theorem glueL_bnd : ∀ (G : List Rg), (∀ r ∈ G, -200 ≤ r.2 ∧ r.2 ≤ 200) → ∀ q ∈ glueL G, -200 ≤ q.2 ∧ q.2 ≤ 200 := by
  suffices h : ∀ (G out : List Rg), (∀ r ∈ G, -200 ≤ r.2 ∧ r.2 ≤ 200) → (∀ q ∈ out, -200 ≤ q.2 ∧ q.2 ≤ 200) → ∀ q ∈ G.foldl glue out, -200 ≤ q.2 ∧ q.2 ≤ 200 from
    fun G hG => h G [] hG (by simp)
  intro G
  induction G with
  | nil => intro out _ ho; exact ho
  | cons r G ih =>
    intro out hG ho
    refine ih (glue out r) (fun q hq => hG q (by simp [hq])) (fun q hq => ?_)
    have hr := hG r (by simp)
    rcases List.eq_nil_or_concat out with rfl | ⟨M, p, rfl⟩
    · rw [glue_nil] at hq; simp at hq; subst hq; exact hr
    · rw [List.concat_eq_append] at *
      rw [glue_snoc] at hq
      split at hq
      · rcases List.mem_append.1 hq with h1 | h1
        · exact ho q (by simp [h1])
        · simp at h1; subst h1; exact hr
      · rcases List.mem_append.1 hq with h1 | h1
        · exact ho q h1
        · simp at h1; subst h1; exact hr
/-- what is left, by the reference's way -/
def leftR (D : List Rg) (p : Int → Bool) : List Rg := if goneL p D = [] then D else minusL D (norm (glueL (goneL p D)))
theorem leftR_eq (D : List Rg) (hD : Normal D) (st : Int → Bool) : leftR D (fun x => !st x) = canon fun x => memL D x && st x := by
  unfold leftR
  by_cases h : goneL (fun x => !st x) D = []
  · rw [if_pos h]
    refine is_canon hD (fun n _ _ => ?_)
    have := goneL_mem (fun x => !st x) D n
    rw [h, memL_nil] at this
    cases h1 : memL D n <;> cases h2 : st n <;> simp [h1, h2] at this ⊢
  · rw [if_neg h]
    unfold minusL
    refine canon_congr fun n h1 h2 => ?_
    rw [memL_norm, (glueL_mem _ (goneL_single _ D)).1, goneL_mem]
    simp only [inD, h1, h2, decide_true, Bool.true_and]
    cases memL D n <;> cases st n <;> rfl
/-- the step of the reference is the step of onceGo -/
theorem left_narrow (rel c : Int) (hr : rel = 1 ∨ rel = 2 ∨ rel = 3) (ds : Ds) (ps : Ps) (k : Nat) (hk : k < ps.length) (hz : ∀ p ∈ ps, p.1 ≠ 0) (ho : allOk ds ps = true) :
    leftR (norm (domOf ds ps[k].2)) (fun x => !staysR rel c ps[k].1 (loS ds (ps.eraseIdx k)) (hiS ds (ps.eraseIdx k)) (fixedB ds (ps.eraseIdx k)) x) = narrowAt rel c ds (loS ds ps) (hiS ds ps) ps[k] := by
  rw [leftR_eq _ (norm_normal _)]
  have h1 := (fixed_sum ds (ps.eraseIdx k) (fun p hp => hz p (List.mem_of_mem_eraseIdx hp)) (allOk_erase ds ps k ho)).2
  rw [h1]
  unfold narrowAt narrowL
  refine canon_congr fun n h1 h2 => ?_
  rw [staysR_eq _ _ _ _ _ _ hr, loS_erase ds ps k hk, hiS_erase ds ps k hk, memL_norm]
  simp [inD, h1, h2]
end Go.Proofs.Ytmmogifmogdegaa
