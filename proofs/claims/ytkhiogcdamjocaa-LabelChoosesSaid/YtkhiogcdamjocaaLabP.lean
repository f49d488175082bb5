/-
  PLAIN LAWS of layer 19's choosing and parting. No program.
-/
import Derived.Test.YtkhiogcdamjocaaLinP
namespace Go.Proofs.Ytkhiogcdamjocaa

def domAt (ds : Ds) (v : Int) : List Rg := if v < 0 then [] else ds.getD v.toNat []
def labChk (sel ord br : Int) (n : Nat) : Int := if sel < 0 ∨ 4 < sel ∨ ord < 0 ∨ 1 < ord ∨ br < 0 ∨ 1 < br ∨ 64 < n then 190 else 0
def rankL (sel : Int) (ws : List Int) (d : List Rg) (i : Nat) : Int :=
  if sel = 1 then sizeL (norm d) else if sel = 2 then (endsL (norm d)).1 else if sel = 3 then -(endsL (norm d)).2.1 else if sel = 4 then ws.getD i 0 else 0
/-- which place is taken, of the first k -/
def chooseL (ds : Ds) (vars : List Int) (sel : Int) (ws : List Int) : Nat → Option Nat
  | 0 => none
  | k + 1 =>
    if sizeL (norm (domAt ds (vars.getD k 0))) < 2 then chooseL ds vars sel ws k
    else match chooseL ds vars sel ws k with
      | none => some k
      | some b => if rankL sel ws (domAt ds (vars.getD k 0)) k < rankL sel ws (domAt ds (vars.getD b 0)) b then some k else some b
theorem chooseL_lt (ds : Ds) (vars : List Int) (sel : Int) (ws : List Int) : ∀ (k b : Nat), chooseL ds vars sel ws k = some b → b < k
  | 0, b, h => by simp [chooseL] at h
  | k + 1, b, h => by
    have ih := chooseL_lt ds vars sel ws k
    unfold chooseL at h
    split at h
    · have := ih b h; omega
    · split at h
      · cases h; omega
      · rename_i b' hb
        have := ih b' hb
        split at h <;> cases h <;> omega
/-- which of two is ahead -/
def betterL (sel : Int) (a b : List Rg) : Bool := if sel = 1 then decide (sizeL (norm a) < sizeL (norm b)) else if sel = 2 then decide ((endsL (norm a)).1 < (endsL (norm b)).1) else if sel = 3 then decide ((endsL (norm b)).2.1 < (endsL (norm a)).2.1) else false
theorem better_rank (sel : Int) (ws : List Int) (a b : List Rg) (i j : Nat) : (betterL sel a b || (decide (sel = 4) && decide (ws.getD i 0 < ws.getD j 0))) = decide (rankL sel ws a i < rankL sel ws b j) := by
  unfold betterL rankL
  by_cases h1 : sel = 1
  · subst h1; simp
  · by_cases h2 : sel = 2
    · subst h2; simp
    · by_cases h3 : sel = 3
      · subst h3; simp
      · by_cases h4 : sel = 4
        · subst h4; simp
        · simp [h1, h2, h3, h4]

/-! ### parting -/
def cutAt (ord br lo hi : Int) : Int := if br = 1 then (lo + hi) / 2 else if ord = 1 then hi - 1 else lo
def splitL (d : List Rg) (ord br : Int) : List Rg × List Rg :=
  if sizeL (norm d) < 2 then ([], [])
  else
    let lo := (endsL (norm d)).1
    let hi := (endsL (norm d)).2.1
    let A := meetL d [(lo, cutAt ord br lo hi)]
    let B := minusL d [(lo, cutAt ord br lo hi)]
    if ord = 1 then (B, A) else (A, B)
theorem two_okT (d : List Rg) (h : ¬ sizeL (norm d) < 2) : okT d = true := by
  rw [okT_nil]
  by_cases hn : norm d = []
  · rw [hn] at h; simp [sizeL] at h
  · simp [hn]
theorem two_ends (d : List Rg) (h : ¬ sizeL (norm d) < 2) : (endsL (norm d)).1 < (endsL (norm d)).2.1 := by
  obtain ⟨a, b⟩ := ends_in d (two_okT d h)
  have h1 := (ends_mem d _ a).2.1
  rcases (show (endsL (norm d)).1 < (endsL (norm d)).2.1 ∨ (endsL (norm d)).1 = (endsL (norm d)).2.1 by omega) with h2 | h2
  · exact h2
  · exfalso
    have e : norm d = [((endsL (norm d)).1, (endsL (norm d)).1)] := by
      have hb := ends_bnd d
      refine normal_unique (norm_normal d) (show Normal _ from ⟨by dsimp only; omega, Int.le_refl _, by dsimp only; omega, trivial⟩) (fun n => ?_)
      rw [Bool.eq_iff_iff]
      constructor
      · intro hn
        have := ends_mem d n hn
        simp [memL]; omega
      · intro hn
        simp [memL] at hn
        have : n = (endsL (norm d)).1 := by omega
        rw [this]; exact a
    rw [e] at h; simp [sizeL] at h
theorem mem_ends (d : List Rg) (n : Int) (h1 : -200 ≤ n) (h2 : n ≤ 200) (h : memL d n = true) : (endsL (norm d)).1 ≤ n ∧ n ≤ (endsL (norm d)).2.1 := by
  have : memL (norm d) n = true := by rw [memL_norm, h]; simp [inD, h1, h2]
  have := ends_mem d n this
  exact ⟨this.1, this.2.1⟩
/-- the reference's first part -/
def firstR (d : List Rg) (ord br : Int) : List Rg :=
  let lo := (endsL (norm d)).1
  let hi := (endsL (norm d)).2.1
  if br = 1 then (if ord = 1 then meetL d [((lo + hi) / 2 + 1, hi)] else meetL d [(lo, (lo + hi) / 2)]) else if ord = 1 then [(hi, hi)] else [(lo, lo)]
theorem mem1 (a b n : Int) : memL [(a, b)] n = (decide (a ≤ n) && decide (n ≤ b)) := by simp [memL]
theorem split_ref (d : List Rg) (ord br : Int) (h : ¬ sizeL (norm d) < 2) (ho : ord = 0 ∨ ord = 1) (hb : br = 0 ∨ br = 1) : splitL d ord br = (firstR d ord br, minusL d (firstR d ord br)) := by
  have hle := two_ends d h
  have hbd := ends_bnd d
  obtain ⟨e1, e2⟩ := ends_in d (two_okT d h)
  rw [memL_norm, Bool.and_eq_true] at e1 e2
  have key := mem_ends d
  unfold splitL firstR cutAt
  rw [if_neg h]
  generalize (endsL (norm d)).1 = lo at *
  generalize (endsL (norm d)).2.1 = hi at *
  have hN1 : ∀ x : Int, -200 ≤ x → x ≤ 200 → Normal [(x, x)] := fun x a b => show NormFrom _ _ from ⟨a, Int.le_refl _, b, trivial⟩
  rcases ho with rfl | rfl <;> rcases hb with rfl | rfl <;> simp only [show ((0 : Int) = 1) = False by simp, if_true, if_false]
  · refine Prod.ext ?_ rfl
    show meetL d [(lo, lo)] = [(lo, lo)]
    refine (is_canon (hN1 lo (by omega) (by omega)) (fun n h1 h2 => ?_)).symm
    rw [mem1]
    by_cases hn : n = lo
    · subst hn; simp [e1.2]
    · have : (decide (lo ≤ n) && decide (n ≤ lo)) = false := by simp; omega
      rw [this]; simp
  · refine Prod.ext rfl ?_
    show minusL d [(lo, (lo + hi) / 2)] = minusL d (meetL d [(lo, (lo + hi) / 2)])
    refine canon_congr fun n h1 h2 => ?_
    have hmm : memL (meetL d [(lo, (lo + hi) / 2)]) n = (memL d n && memL [(lo, (lo + hi) / 2)] n) := by
      unfold meetL; rw [canon_mem]; simp [h1, h2]
    rw [hmm]
    cases memL d n <;> cases memL [(lo, (lo + hi) / 2)] n <;> rfl
  · refine Prod.ext ?_ ?_
    · show minusL d [(lo, hi - 1)] = [(hi, hi)]
      refine (is_canon (hN1 hi (by omega) (by omega)) (fun n h1 h2 => ?_)).symm
      rw [mem1, mem1]
      by_cases hn : n = hi
      · subst hn; simp [e2.2]; omega
      · have : (decide (hi ≤ n) && decide (n ≤ hi)) = false := by simp; omega
        rw [this]
        cases hm : memL d n with
        | false => rfl
        | true =>
          have := key n h1 h2 hm
          simp; omega
    · show meetL d [(lo, hi - 1)] = minusL d [(hi, hi)]
      refine canon_congr fun n h1 h2 => ?_
      rw [mem1, mem1]
      cases hm : memL d n with
      | false => rfl
      | true =>
        have := key n h1 h2 hm
        rw [Bool.eq_iff_iff]; simp; omega
  · refine Prod.ext ?_ ?_
    · show minusL d [(lo, (lo + hi) / 2)] = meetL d [((lo + hi) / 2 + 1, hi)]
      refine canon_congr fun n h1 h2 => ?_
      rw [mem1, mem1]
      cases hm : memL d n with
      | false => rfl
      | true =>
        have := key n h1 h2 hm
        rw [Bool.eq_iff_iff]; simp; omega
    · show meetL d [(lo, (lo + hi) / 2)] = minusL d (meetL d [((lo + hi) / 2 + 1, hi)])
      refine canon_congr fun n h1 h2 => ?_
      have hmm : memL (meetL d [((lo + hi) / 2 + 1, hi)]) n = (memL d n && (decide ((lo + hi) / 2 + 1 ≤ n) && decide (n ≤ hi))) := by
        unfold meetL; rw [canon_mem, mem1]; simp [h1, h2]
      rw [hmm, mem1]
      cases hm : memL d n with
      | false => rfl
      | true =>
        have := key n h1 h2 hm
        rw [Bool.eq_iff_iff]; simp; omega
/-- what the law asks of the parts -/
theorem split_parts (d : List Rg) (ord br : Int) (h : ¬ sizeL (norm d) < 2) (ho : ord = 0 ∨ ord = 1) (hb : br = 0 ∨ br = 1) :
    (splitL d ord br).1 ≠ [] ∧ (splitL d ord br).2 ≠ [] ∧ meetL (splitL d ord br).1 (splitL d ord br).2 = [] ∧ joinL (splitL d ord br).1 (splitL d ord br).2 = norm d := by
  have hle := two_ends d h
  have hbd := ends_bnd d
  obtain ⟨e1, e2⟩ := ends_in d (two_okT d h)
  rw [memL_norm, Bool.and_eq_true] at e1 e2
  have hc : (endsL (norm d)).1 ≤ cutAt ord br (endsL (norm d)).1 (endsL (norm d)).2.1 ∧ cutAt ord br (endsL (norm d)).1 (endsL (norm d)).2.1 < (endsL (norm d)).2.1 := by
    unfold cutAt
    rcases ho with rfl | rfl <;> rcases hb with rfl | rfl <;> simp <;> omega
  unfold splitL
  rw [if_neg h]
  dsimp only
  generalize (endsL (norm d)).1 = lo at *
  generalize (endsL (norm d)).2.1 = hi at *
  generalize cutAt ord br lo hi = c at *
  have hA : memL (meetL d [(lo, c)]) lo = true := by unfold meetL; rw [canon_mem, mem1, e1.2]; simp; omega
  have hB : memL (minusL d [(lo, c)]) hi = true := by unfold minusL; rw [canon_mem, mem1, e2.2]; simp; omega
  have mA : ∀ n, -200 ≤ n → n ≤ 200 → memL (meetL d [(lo, c)]) n = (memL d n && memL [(lo, c)] n) := fun n h1 h2 => by unfold meetL; rw [canon_mem]; simp [h1, h2]
  have mB : ∀ n, -200 ≤ n → n ≤ 200 → memL (minusL d [(lo, c)]) n = (memL d n && !memL [(lo, c)] n) := fun n h1 h2 => by unfold minusL; rw [canon_mem]; simp [h1, h2]
  generalize meetL d [(lo, c)] = A at *
  generalize minusL d [(lo, c)] = B at *
  have hN : Normal ([] : List Rg) := trivial
  by_cases o1 : ord = 1
  · simp only [if_pos o1]
    refine ⟨mem_ne_nil hB, mem_ne_nil hA, ?_, ?_⟩
    · refine (is_canon hN (fun n h1 h2 => ?_)).symm
      rw [mA n h1 h2, mB n h1 h2, memL_nil]
      cases memL d n <;> cases memL [(lo, c)] n <;> rfl
    · refine canon_congr fun n h1 h2 => ?_
      rw [mA n h1 h2, mB n h1 h2]
      cases memL d n <;> cases memL [(lo, c)] n <;> rfl
  · simp only [if_neg o1]
    refine ⟨mem_ne_nil hA, mem_ne_nil hB, ?_, ?_⟩
    · refine (is_canon hN (fun n h1 h2 => ?_)).symm
      rw [mA n h1 h2, mB n h1 h2, memL_nil]
      cases memL d n <;> cases memL [(lo, c)] n <;> rfl
    · refine canon_congr fun n h1 h2 => ?_
      rw [mA n h1 h2, mB n h1 h2]
      cases memL d n <;> cases memL [(lo, c)] n <;> rfl
end Go.Proofs.Ytkhiogcdamjocaa
