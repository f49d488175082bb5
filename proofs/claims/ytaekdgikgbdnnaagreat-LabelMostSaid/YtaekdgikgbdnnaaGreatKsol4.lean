/-
  PLAIN LAWS of the search (layer 19): its nodes, its answers, what a part keeps; no program.
  PLAIN LAWS of the search, step by step: what is found so far, how many nodes are left; no program.
  label's iterator over the answers of a problem, walked: its contract.
-/
import Derived.Test.YtaekdgikgbdnnaaGreatKlabel1
import Derived.Test.YtaekdgikgbdnnaaGreatKsol3
import Derived.Test.YtaekdgikgbdnnaaGreatKsol2
import Derived.Test.YtaekdgikgbdnnaaGreatKdom3
import Derived.Deep.LoopGhost
import Derived.Deep.CutBlock
import Derived.OwnWalkIn
import Derived.BigQuiet
namespace Go.Proofs.YtaekdgikgbdnnaaGreat

/-- what constraints come to together -/
noncomputable def theFix (ps : List PL) (D : Ds) : Option Ds := @dite _ (∃ R, FixOf ps D R) (Classical.propDecidable _) (fun h => Classical.choose h) (fun _ => none)
theorem theFix_eq {ps : List PL} {D : Ds} {R : Option Ds} (h : FixOf ps D R) : theFix ps D = R := by
  have hx : ∃ R, FixOf ps D R := ⟨R, h⟩
  unfold theFix
  rw [dif_pos hx]
  exact fixOf_unique (Classical.choose_spec hx) h
structure SOpt where
  sel : Int
  ord : Int
  br : Int
  ws : List Int
def partAt (now : Ds) (v : Nat) (o : SOpt) : Ds × Ds := (now.set v (splitL (now.getD v []) o.ord o.br).1, now.set v (splitL (now.getD v []) o.ord o.br).2)
/-- the search: what it finds of a stack, with so many nodes yet; and whether these ran out -/
noncomputable def find (ps : List PL) (vars : List Int) (o : SOpt) : Nat → List Ds → List (List Int) × Bool
  | _, [] => ([], false)
  | 0, _ :: _ => ([], true)
  | n + 1, D :: st => match theFix ps D with
    | none => find ps vars o n st
    | some now => match chooseL now vars o.sel o.ws vars.length with
      | none => (vars.map (fun v => (endsL (norm (domOf now v))).1) :: (find ps vars o n st).1, (find ps vars o n st).2)
      | some k => find ps vars o n ((partAt now (vars.getD k 0).toNat o).1 :: (partAt now (vars.getD k 0).toNat o).2 :: st)
/-- values of the domains for which all constraints hold -/
def Sol (ps : List PL) (D : Ds) (x : List Int) : Prop := Has (D.map norm) x ∧ ∀ p ∈ ps, holdsP p x = true
theorem has_bnd {D : Ds} {x : List Int} (h : Has (D.map norm) x) : ∀ v ∈ x, -200 ≤ v ∧ v ≤ 200 := fun v hv => by
  obtain ⟨j, hj, rfl⟩ := List.mem_iff_getElem.1 hv
  have h1 := h.2 j (by rw [← h.1]; exact hj)
  rw [getD_map_norm, List.getD_eq_getElem?_getD (l := x), List.getElem?_eq_getElem hj] at h1
  exact memL_bounds (norm_normal _) h1
theorem sol_iff {ps : List PL} {D : Ds} {R : Option Ds} (hg : ∀ p ∈ ps, p.Lin D.length) (h : FixOf ps D R) (x : List Int) : Sol ps D x ↔ ∃ r, R = some r ∧ Sol ps r x := by
  constructor
  · intro hs
    obtain ⟨r, e, hl, hn, hm⟩ := fixOf_keeps hg (has_bnd hs.1) hs.1 hs.2 h
    refine ⟨r, e, ⟨?_, hs.2⟩⟩
    rw [norm_getD hn]
    have hx := hs.1.1
    rw [List.length_map] at hx
    exact ⟨by rw [hl]; exact hx, fun j hj => hm j (by rw [← hl]; exact hj)⟩
  · rintro ⟨r, rfl, hs⟩
    obtain ⟨hc, _⟩ := h
    have h1 := hs.1
    rw [norm_getD hc.nor] at h1
    exact ⟨⟨by rw [List.length_map, ← hc.len]; exact h1.1, fun j hj => hc.sub j _ (h1.2 j (by rw [hc.len]; simpa using hj))⟩, hs.2⟩
/-- a set's two parts: each integer of it is in just one -/
theorem split_mem {d : List Rg} {ord br : Int} (h : ¬ sizeL (norm d) < 2) (ho : ord = 0 ∨ ord = 1) (hb : br = 0 ∨ br = 1) (z : Int) :
    (memL (norm d) z = true ↔ memL (norm (splitL d ord br).1) z = true ∨ memL (norm (splitL d ord br).2) z = true) ∧ ¬ (memL (norm (splitL d ord br).1) z = true ∧ memL (norm (splitL d ord br).2) z = true) := by
  obtain ⟨_, _, h3, h4⟩ := split_parts d ord br h ho hb
  generalize (splitL d ord br).1 = A at *
  generalize (splitL d ord br).2 = B at *
  have hJ : memL (joinL A B) z = (inD z && (memL A z || memL B z)) := canon_mem _ _
  have hM : memL (meetL A B) z = (inD z && (memL A z && memL B z)) := canon_mem _ _
  rw [h4] at hJ
  rw [h3, memL_nil] at hM
  rw [hJ, memL_norm, memL_norm]
  clear hJ h3 h4
  revert hM
  cases inD z <;> cases memL A z <;> cases memL B z <;> simp
theorem has_set {now : Ds} {v : Nat} (hv : v < now.length) {a : List Rg} {x : List Int} : Has ((now.set v a).map norm) x ↔ x.length = now.length ∧ (∀ j, j < now.length → j ≠ v → memL (norm (now.getD j [])) (x.getD j 0) = true) ∧ memL (norm a) (x.getD v 0) = true := by
  unfold Has
  rw [List.length_map, List.length_set]
  constructor
  · rintro ⟨h1, h2⟩
    refine ⟨h1, fun j hj hne => ?_, ?_⟩
    · have := h2 j hj
      rwa [getD_map_norm, getD_set, if_neg (fun e => hne e.1.symm)] at this
    · have := h2 v hv
      rwa [getD_map_norm, getD_set, if_pos ⟨rfl, hv⟩] at this
  · rintro ⟨h1, h2, h3⟩
    refine ⟨h1, fun j hj => ?_⟩
    rw [getD_map_norm, getD_set]
    by_cases e : v = j
    · subst e; rw [if_pos ⟨rfl, hv⟩]; exact h3
    · rw [if_neg (fun h => e h.1)]; exact h2 j hj (fun h => e h.symm)
theorem has_self {now : Ds} {v : Nat} (hv : v < now.length) {x : List Int} : Has (now.map norm) x ↔ x.length = now.length ∧ (∀ j, j < now.length → j ≠ v → memL (norm (now.getD j [])) (x.getD j 0) = true) ∧ memL (norm (now.getD v [])) (x.getD v 0) = true := by
  unfold Has
  rw [List.length_map]
  constructor
  · rintro ⟨h1, h2⟩
    exact ⟨h1, fun j hj _ => by have := h2 j hj; rwa [getD_map_norm] at this, by have := h2 v hv; rwa [getD_map_norm] at this⟩
  · rintro ⟨h1, h2, h3⟩
    refine ⟨h1, fun j hj => ?_⟩
    rw [getD_map_norm]
    by_cases e : j = v
    · subst e; exact h3
    · exact h2 j hj e
/-- both parts together have the solutions, and none in common -/
theorem part_sol {ps : List PL} {now : Ds} {v : Nat} {o : SOpt} (hv : v < now.length) (h : ¬ sizeL (norm (now.getD v [])) < 2) (ho : o.ord = 0 ∨ o.ord = 1) (hb : o.br = 0 ∨ o.br = 1) (x : List Int) :
    (Sol ps now x ↔ Sol ps (partAt now v o).1 x ∨ Sol ps (partAt now v o).2 x) ∧ ¬ (Sol ps (partAt now v o).1 x ∧ Sol ps (partAt now v o).2 x) := by
  obtain ⟨m1, m2⟩ := split_mem h ho hb (x.getD v 0)
  unfold Sol partAt
  dsimp only
  rw [has_set hv, has_set hv, has_self hv]
  constructor
  · constructor
    · rintro ⟨⟨a, b, c⟩, d⟩
      rcases m1.1 c with e | e
      · exact .inl ⟨⟨a, b, e⟩, d⟩
      · exact .inr ⟨⟨a, b, e⟩, d⟩
    · rintro (⟨⟨a, b, c⟩, d⟩ | ⟨⟨a, b, c⟩, d⟩)
      · exact ⟨⟨a, b, m1.2 (.inl c)⟩, d⟩
      · exact ⟨⟨a, b, m1.2 (.inr c)⟩, d⟩
  · rintro ⟨⟨⟨_, _, c⟩, _⟩, ⟨⟨_, _, c'⟩, _⟩⟩
    exact m2 ⟨c, c'⟩

/-! ### how many nodes there may be -/
def prodN : Ds → Nat
  | [] => 1
  | d :: D => sizeN d * prodN D
theorem prodN_set : ∀ (D : Ds) (v : Nat) (a : List Rg), v < D.length → prodN (D.set v a) * sizeN (D.getD v []) = prodN D * sizeN a
  | [], _, _, h => by simp at h
  | d :: D, 0, a, _ => by
    show sizeN a * prodN D * sizeN d = sizeN d * prodN D * sizeN a
    rw [Nat.mul_right_comm, Nat.mul_comm (sizeN a), Nat.mul_right_comm]
  | d :: D, v + 1, a, h => by
    have ih := prodN_set D v a (by simpa using h)
    show sizeN d * prodN (D.set v a) * sizeN (D.getD v []) = sizeN d * prodN D * sizeN a
    rw [Nat.mul_assoc, ih, Nat.mul_assoc]
theorem prodN_le : ∀ {A B : Ds}, A.length = B.length → (∀ j x, memL (A.getD j []) x = true → memL (B.getD j []) x = true) → prodN A ≤ prodN B
  | [], [], _, _ => Nat.le_refl _
  | [], _ :: _, h, _ => by simp at h
  | _ :: _, [], h, _ => by simp at h
  | a :: A, b :: B, hl, h => Nat.mul_le_mul (sizeN_le (fun x hx => h 0 x hx)) (prodN_le (by simpa using hl) (fun j x hx => h (j + 1) x hx))
/-- so many nodes a problem takes, at most -/
def nodesN (D : Ds) : Nat := 2 * prodN D - 1 + (if prodN D = 0 then 1 else 0)
theorem nodesN_pos (D : Ds) : 1 ≤ nodesN D := by unfold nodesN; split <;> omega
theorem nodesN_le {A B : Ds} (h : prodN A ≤ prodN B) : nodesN A ≤ nodesN B := by unfold nodesN; split <;> split <;> omega
theorem cnt_add2 {S A B : Int → Bool} (h : ∀ x, S x = (A x || B x)) (hd : ∀ x, ¬ (A x = true ∧ B x = true)) : ∀ (k : Nat) (n : Int), cnt S k n = cnt A k n + cnt B k n
  | 0, _ => by simp [cnt]
  | k + 1, n => by
    have ih := cnt_add2 h hd k (n + 1)
    have h1 := h n
    have h2 := hd n
    unfold cnt
    cases hA : A n <;> cases hB : B n <;> simp_all <;> omega
theorem split_normal (d : List Rg) (ord br : Int) : Normal (splitL d ord br).1 ∧ Normal (splitL d ord br).2 := by
  unfold splitL
  split
  · exact ⟨trivial, trivial⟩
  · dsimp only
    split
    · dsimp only; exact ⟨canon_normal _, canon_normal _⟩
    · dsimp only; exact ⟨canon_normal _, canon_normal _⟩
theorem sizeN_pos {d : List Rg} (h : Normal d) (hne : d ≠ []) : 1 ≤ sizeN d := by
  have := sizeN_lt (a := []) (b := d) (show Normal [] from trivial) h (fun x hx => by simp [memL_nil] at hx) (fun e => hne e.symm)
  omega
theorem split_size {d : List Rg} {ord br : Int} (hn : Normal d) (h : ¬ sizeL (norm d) < 2) (ho : ord = 0 ∨ ord = 1) (hb : br = 0 ∨ br = 1) :
    sizeN d = sizeN (splitL d ord br).1 + sizeN (splitL d ord br).2 ∧ 1 ≤ sizeN (splitL d ord br).1 ∧ 1 ≤ sizeN (splitL d ord br).2 := by
  obtain ⟨e1, e2, _, _⟩ := split_parts d ord br h ho hb
  obtain ⟨n1, n2⟩ := split_normal d ord br
  have hd : norm d = d := norm_of_normal hn
  have h1 : norm (splitL d ord br).1 = (splitL d ord br).1 := norm_of_normal n1
  have h2 : norm (splitL d ord br).2 = (splitL d ord br).2 := norm_of_normal n2
  refine ⟨?_, sizeN_pos n1 e1, sizeN_pos n2 e2⟩
  have hm := fun z => split_mem (d := d) (ord := ord) (br := br) h ho hb z
  rw [hd, h1, h2] at hm
  have hc := cnt_add2 (S := memL d) (A := memL (splitL d ord br).1) (B := memL (splitL d ord br).2) (fun x => by rw [Bool.eq_iff_iff, Bool.or_eq_true]; exact (hm x).1) (fun x => (hm x).2) 401 (-200)
  have p1 := cnt_nonneg (memL (splitL d ord br).1) 401 (-200)
  have p2 := cnt_nonneg (memL (splitL d ord br).2) 401 (-200)
  unfold sizeN
  omega
theorem prodN_pos : ∀ {D : Ds}, AllN D → AllE D → 1 ≤ prodN D
  | [], _, _ => Nat.le_refl _
  | d :: D, hn, he => by
    have h1 : 1 ≤ sizeN d := sizeN_pos (hn 0) (he 0 (by simp))
    have h2 := prodN_pos (D := D) (fun j => hn (j + 1)) (fun j hj => he (j + 1) (by simpa using hj))
    exact Nat.mul_pos h1 h2
theorem nodes_parts {now : Ds} {v : Nat} {o : SOpt} (hn : AllN now) (he : AllE now) (hv : v < now.length) (h : ¬ sizeL (norm (now.getD v [])) < 2) (ho : o.ord = 0 ∨ o.ord = 1) (hb : o.br = 0 ∨ o.br = 1) :
    nodesN (partAt now v o).1 + nodesN (partAt now v o).2 + 1 ≤ nodesN now := by
  obtain ⟨s1, s2, s3⟩ := split_size (hn v) h ho hb
  have hP := prodN_pos hn he
  have hA := prodN_set now v (splitL (now.getD v []) o.ord o.br).1 hv
  have hB := prodN_set now v (splitL (now.getD v []) o.ord o.br).2 hv
  unfold partAt nodesN
  dsimp only
  generalize prodN (now.set v (splitL (now.getD v []) o.ord o.br).1) = PA at *
  generalize prodN (now.set v (splitL (now.getD v []) o.ord o.br).2) = PB at *
  generalize sizeN (splitL (now.getD v []) o.ord o.br).1 = a at *
  generalize sizeN (splitL (now.getD v []) o.ord o.br).2 = b at *
  generalize sizeN (now.getD v []) = s at *
  generalize prodN now = P at *
  have hsum : PA + PB = P := by
    have h1 : (PA + PB) * s = P * s := by rw [Nat.add_mul, hA, hB, ← Nat.mul_add, ← s1]
    exact Nat.eq_of_mul_eq_mul_right (by omega) h1
  have hPa : 0 < PA := by
    rcases Nat.eq_zero_or_pos PA with e | e
    · exfalso
      rw [e, Nat.zero_mul] at hA
      have := Nat.mul_pos hP s2
      omega
    · exact e
  have hPb : 0 < PB := by
    rcases Nat.eq_zero_or_pos PB with e | e
    · exfalso
      rw [e, Nat.zero_mul] at hB
      have := Nat.mul_pos hP s3
      omega
    · exact e
  rw [if_neg (by omega), if_neg (by omega), if_neg (by omega)]
  omega

/-! ### leaves -/
theorem single_set {d : List Rg} (hn : Normal d) (hne : d ≠ []) (hs : sizeL (norm d) < 2) : d = [((endsL (norm d)).1, (endsL (norm d)).1)] := by
  have e : norm d = d := norm_of_normal hn
  rw [e] at hs ⊢
  cases d with
  | nil => exact absurd rfl hne
  | cons r rest =>
    obtain ⟨h1, h2, h3, h4⟩ := hn
    have hr : rest = [] := by
      cases rest with
      | nil => rfl
      | cons q l =>
        exfalso
        obtain ⟨g1, g2, g3, g4⟩ := h4
        have hl : 0 ≤ sizeL l := by
          have : ∀ (l : List Rg) (lo : Int), NormFrom lo l → 0 ≤ sizeL l := by
            intro l
            induction l with
            | nil => intro _ _; exact Int.le_refl _
            | cons r l ih => intro lo h; obtain ⟨a, b, c, d⟩ := h; have := ih _ d; unfold sizeL; omega
          exact this l _ g4
        unfold sizeL at hs
        unfold sizeL at hs
        omega
    subst hr
    have h5 : r.1 = r.2 := by unfold sizeL at hs; simp [sizeL] at hs; omega
    show [r] = [(r.1, r.1)]
    rw [show (r.1, r.1) = r from Prod.ext rfl h5]
theorem choose_none {ds : Ds} {vars : List Int} {sel : Int} {ws : List Int} : ∀ {k : Nat}, chooseL ds vars sel ws k = none → ∀ i, i < k → sizeL (norm (domAt ds (vars.getD i 0))) < 2
  | 0, _, i, hi => absurd hi (Nat.not_lt_zero _)
  | k + 1, h, i, hi => by
    unfold chooseL at h
    split at h
    · rename_i hs
      by_cases e : i = k
      · subst e; exact hs
      · exact choose_none h i (by omega)
    · split at h
      · cases h
      · split at h <;> cases h
theorem choose_some {ds : Ds} {vars : List Int} {sel : Int} {ws : List Int} : ∀ {k b : Nat}, chooseL ds vars sel ws k = some b → ¬ sizeL (norm (domAt ds (vars.getD b 0))) < 2
  | 0, b, h => by simp [chooseL] at h
  | k + 1, b, h => by
    unfold chooseL at h
    split at h
    · exact choose_some h
    · rename_i hs
      split at h
      · cases h; exact hs
      · rename_i b' hb
        split at h
        · cases h; exact hs
        · cases h; exact choose_some hb
theorem domAt_nat (ds : Ds) (j : Nat) : domAt ds (j : Int) = ds.getD j [] := by
  unfold domAt; rw [if_neg (by omega), Int.toNat_natCast]
def allV (n : Nat) : List Int := (List.range n).map Int.ofNat
theorem allV_len (n : Nat) : (allV n).length = n := by simp [allV]
theorem allV_at {n j : Nat} (h : j < n) : (allV n).getD j 0 = (j : Int) := by
  unfold allV
  rw [List.getD_eq_getElem?_getD, List.getElem?_map, List.getElem?_range h]; rfl
/-- at a leaf just one choice is left, and it is a solution -/
theorem leaf_sol {ps : List PL} {D now : Ds} {n : Nat} {o : SOpt} (hg : ∀ p ∈ ps, p.Lin n) (hl : D.length = n) (h : FixOf ps D (some now)) (hc : chooseL now (allV n) o.sel o.ws (allV n).length = none) (x : List Int) :
    Sol ps now x ↔ x = (allV n).map (fun v => (endsL (norm (domOf now v))).1) := by
  have hln : now.length = n := h.1.len.trans hl
  have hxl : ((allV n).map (fun v => (endsL (norm (domOf now v))).1)).length = now.length := by rw [List.length_map, allV_len, hln]
  have hat : ∀ j, j < now.length → ((allV n).map (fun v => (endsL (norm (domOf now v))).1)).getD j 0 = (endsL (norm (now.getD j []))).1 := fun j hj => by
    rw [List.getD_eq_getElem?_getD, List.getElem?_map]
    have : (allV n)[j]? = some (j : Int) := by unfold allV; rw [List.getElem?_map, List.getElem?_range (by omega)]; rfl
    rw [this]
    show (endsL (norm (domOf now (j : Int)))).1 = _
    unfold domOf; rw [Int.toNat_natCast]
  have hset : ∀ j, j < now.length → now.getD j [] = [((endsL (norm (now.getD j []))).1, (endsL (norm (now.getD j []))).1)] := fun j hj => by
    refine single_set (h.1.nor j) (h.1.non j hj) ?_
    have := choose_none hc j (by rw [allV_len]; omega)
    rwa [allV_at (by omega), domAt_nat] at this
  generalize (allV n).map (fun v => (endsL (norm (domOf now v))).1) = y at *
  have hmem : ∀ j, j < now.length → ∀ z, memL (now.getD j []) z = true ↔ z = y.getD j 0 := fun j hj z => by
    rw [hset j hj, one_mem, hat j hj, decide_eq_true_eq]
  have hyb : ∀ v ∈ y, -200 ≤ v ∧ v ≤ 200 := fun v hv => by
    obtain ⟨j, hj, rfl⟩ := List.mem_iff_getElem.1 hv
    have hj' : j < now.length := by omega
    have h1 := (hmem j hj' (y.getD j 0)).2 rfl
    have h2 := memL_bounds (h.1.nor j) h1
    rwa [List.getD_eq_getElem?_getD (l := y), List.getElem?_eq_getElem hj] at h2
  have hns : now = single y := ds_ext (by rw [single_len, hxl]) h.1.nor (single_allN hyb) (fun j hj z => by
    rw [Bool.eq_iff_iff, hmem j hj z, single_at (by omega), one_mem, decide_eq_true_eq])
  have hhold : ∀ p ∈ ps, holdsP p y = true := by
    have h1 := fixOf_again h
    rw [hns] at h1
    obtain ⟨_, h2⟩ := fixOf_single (ps := ps) (y := y) (by rw [hxl, hln]; exact hg) hyb h1
    apply Classical.byContradiction
    intro hno
    have := h2 hno
    cases this
  constructor
  · intro hs
    have h1 := hs.1
    rw [norm_getD h.1.nor] at h1
    apply List.ext_getElem (by rw [h1.1, hxl])
    intro j hj1 hj2
    have hj : j < now.length := by omega
    have h2 := (hmem j hj _).1 (h1.2 j hj)
    rwa [List.getD_eq_getElem?_getD, List.getD_eq_getElem?_getD, List.getElem?_eq_getElem hj1, List.getElem?_eq_getElem hj2] at h2
  · rintro rfl
    refine ⟨?_, hhold⟩
    rw [norm_getD h.1.nor]
    exact ⟨hxl, fun j hj => (hmem j hj _).2 rfl⟩
/-- with all variables labeled the search finds just the solutions, each once, and its nodes do not run out -/
theorem find_all {ps : List PL} {n : Nat} {o : SOpt} (hg : ∀ p ∈ ps, p.Lin n) (ho : o.ord = 0 ∨ o.ord = 1) (hb : o.br = 0 ∨ o.br = 1) : ∀ (fuel : Nat) (st : List Ds), (∀ D ∈ st, D.length = n) → (st.map nodesN).sum ≤ fuel →
    (find ps (allV n) o fuel st).2 = false ∧ (∀ x, x ∈ (find ps (allV n) o fuel st).1 ↔ ∃ D ∈ st, Sol ps D x) ∧ ((st.Pairwise fun A B => ∀ x, ¬ (Sol ps A x ∧ Sol ps B x)) → (find ps (allV n) o fuel st).1.Nodup)
  | 0, [], _, _ => ⟨rfl, fun x => by simp [find], fun _ => List.nodup_nil⟩
  | fuel + 1, [], _, _ => ⟨rfl, fun x => by simp [find], fun _ => List.nodup_nil⟩
  | 0, D :: st, _, hs => by
    have := nodesN_pos D
    rw [List.map_cons, List.sum_cons] at hs
    omega
  | fuel + 1, D :: st, hl, hs => by
    have hD : D.length = n := hl D List.mem_cons_self
    have hgD : ∀ p ∈ ps, p.Lin D.length := by rw [hD]; exact hg
    rw [List.map_cons, List.sum_cons] at hs
    have hpos := nodesN_pos D
    obtain ⟨R, hR⟩ := fixOf_exists (ps := ps) (D := D) (fun p hp => (hgD p hp).good)
    have hsol := fun x => sol_iff hgD hR x
    have hl' : ∀ E ∈ st, E.length = n := fun E hE => hl E (List.mem_cons_of_mem _ hE)
    rw [find, theFix_eq hR]
    cases R with
    | none =>
      obtain ⟨i1, i2, i3⟩ := find_all hg ho hb fuel st hl' (by omega)
      refine ⟨i1, fun x => ?_, fun hp => i3 (List.pairwise_cons.1 hp).2⟩
      rw [i2 x]
      constructor
      · rintro ⟨E, hE, h⟩; exact ⟨E, List.mem_cons_of_mem _ hE, h⟩
      · rintro ⟨E, hE, h⟩
        rcases List.mem_cons.1 hE with rfl | hE
        · obtain ⟨r, e, _⟩ := (hsol x).1 h; cases e
        · exact ⟨E, hE, h⟩
    | some now =>
      have hnl : now.length = n := hR.1.len.trans hD
      have hs2 : ∀ x, Sol ps D x ↔ Sol ps now x := fun x => by
        rw [hsol x]
        exact ⟨fun ⟨r, e, h⟩ => by cases e; exact h, fun h => ⟨now, rfl, h⟩⟩
      dsimp only
      cases hc : chooseL now (allV n) o.sel o.ws (allV n).length with
      | none =>
        obtain ⟨i1, i2, i3⟩ := find_all hg ho hb fuel st hl' (by omega)
        have hleaf := leaf_sol (o := o) hg hD hR hc
        dsimp only
        refine ⟨i1, fun x => ?_, fun hp => ?_⟩
        · rw [List.mem_cons, i2 x]
          constructor
          · rintro (h | ⟨E, hE, h⟩)
            · exact ⟨D, List.mem_cons_self, (hs2 x).2 ((hleaf x).2 h)⟩
            · exact ⟨E, List.mem_cons_of_mem _ hE, h⟩
          · rintro ⟨E, hE, h⟩
            rcases List.mem_cons.1 hE with rfl | hE
            · exact .inl ((hleaf x).1 ((hs2 x).1 h))
            · exact .inr ⟨E, hE, h⟩
        · obtain ⟨p1, p2⟩ := List.pairwise_cons.1 hp
          refine List.nodup_cons.2 ⟨fun hm => ?_, i3 p2⟩
          obtain ⟨E, hE, h⟩ := (i2 _).1 hm
          exact p1 E hE _ ⟨(hs2 _).2 ((hleaf _).2 rfl), h⟩
      | some k =>
        have hk : k < n := by have := chooseL_lt _ _ _ _ _ _ hc; rwa [allV_len] at this
        have hsz := choose_some hc
        rw [allV_at hk, domAt_nat] at hsz
        have hkv : ((allV n).getD k 0).toNat = k := by rw [allV_at hk, Int.toNat_natCast]
        dsimp only
        rw [hkv]
        have hparts := fun x => part_sol (ps := ps) (o := o) (by omega : k < now.length) hsz ho hb x
        have hnp := nodes_parts hR.1.nor hR.1.non (by omega : k < now.length) hsz ho hb (o := o)
        have hle : nodesN now ≤ nodesN D := nodesN_le (prodN_le hR.1.len (fun j x hx => by
          have := hR.1.sub j x hx
          rw [getD_map_norm, memL_norm, Bool.and_eq_true] at this
          exact this.2))
        obtain ⟨i1, i2, i3⟩ := find_all hg ho hb fuel ((partAt now k o).1 :: (partAt now k o).2 :: st) (fun E hE => by
          rcases List.mem_cons.1 hE with rfl | hE
          · show (now.set _ _).length = n; rw [List.length_set]; exact hnl
          · rcases List.mem_cons.1 hE with rfl | hE
            · show (now.set _ _).length = n; rw [List.length_set]; exact hnl
            · exact hl' E hE) (by rw [List.map_cons, List.map_cons, List.sum_cons, List.sum_cons]; omega)
        refine ⟨i1, fun x => ?_, fun hp => i3 ?_⟩
        · rw [i2 x]
          constructor
          · rintro ⟨E, hE, h⟩
            rcases List.mem_cons.1 hE with rfl | hE
            · exact ⟨D, List.mem_cons_self, (hs2 x).2 ((hparts x).1.2 (.inl h))⟩
            · rcases List.mem_cons.1 hE with rfl | hE
              · exact ⟨D, List.mem_cons_self, (hs2 x).2 ((hparts x).1.2 (.inr h))⟩
              · exact ⟨E, List.mem_cons_of_mem _ hE, h⟩
          · rintro ⟨E, hE, h⟩
            rcases List.mem_cons.1 hE with rfl | hE
            · rcases (hparts x).1.1 ((hs2 x).1 h) with h | h
              · exact ⟨_, List.mem_cons_self, h⟩
              · exact ⟨_, List.mem_cons_of_mem _ List.mem_cons_self, h⟩
            · exact ⟨E, List.mem_cons_of_mem _ (List.mem_cons_of_mem _ hE), h⟩
        · obtain ⟨p1, p2⟩ := List.pairwise_cons.1 hp
          have hin : ∀ x, (Sol ps (partAt now k o).1 x → Sol ps D x) ∧ (Sol ps (partAt now k o).2 x → Sol ps D x) := fun x => ⟨fun h => (hs2 x).2 ((hparts x).1.2 (.inl h)), fun h => (hs2 x).2 ((hparts x).1.2 (.inr h))⟩
          refine List.pairwise_cons.2 ⟨fun E hE x => ?_, List.pairwise_cons.2 ⟨fun E hE x => ?_, p2⟩⟩
          · rcases List.mem_cons.1 hE with rfl | hE
            · exact (hparts x).2
            · exact fun h => p1 E hE x ⟨(hin x).1 h.1, h.2⟩
          · exact fun h => p1 E hE x ⟨(hin x).2 h.1, h.2⟩
theorem nodup_len_le : ∀ (l m : List (List Int)), l.Nodup → (∀ x ∈ l, x ∈ m) → l.length ≤ m.length
  | [], _, _, _ => Nat.zero_le _
  | a :: l, m, hn, h => by
    obtain ⟨h1, h2⟩ := List.nodup_cons.1 hn
    have ha := h a List.mem_cons_self
    have := nodup_len_le l (m.erase a) h2 (fun x hx => by
      have hne : x ≠ a := fun e => h1 (e ▸ hx)
      exact (List.mem_erase_of_ne hne).2 (h x (List.mem_cons_of_mem _ hx)))
    rw [List.length_erase_of_mem ha] at this
    have hp := List.length_pos_of_mem ha
    rw [List.length_cons]; omega
/-- whatever the options, as many are found -/
theorem find_len {ps : List PL} {n : Nat} {o p : SOpt} (hg : ∀ q ∈ ps, q.Lin n) (ho : o.ord = 0 ∨ o.ord = 1) (hb : o.br = 0 ∨ o.br = 1) (po : p.ord = 0 ∨ p.ord = 1) (pb : p.br = 0 ∨ p.br = 1) {D : Ds} (hD : D.length = n) {f g : Nat} (hf : nodesN D ≤ f) (hg' : nodesN D ≤ g) :
    (find ps (allV n) o f [D]).1.length = (find ps (allV n) p g [D]).1.length := by
  obtain ⟨_, a2, a3⟩ := find_all hg ho hb f [D] (fun E hE => by rw [List.mem_singleton.1 hE]; exact hD) (by simpa using hf)
  obtain ⟨_, b2, b3⟩ := find_all hg po pb g [D] (fun E hE => by rw [List.mem_singleton.1 hE]; exact hD) (by simpa using hg')
  have hp : List.Pairwise (fun A B => ∀ x, ¬ (Sol ps A x ∧ Sol ps B x)) [D] := List.pairwise_singleton _ _
  exact Nat.le_antisymm (nodup_len_le _ _ (a3 hp) (fun x hx => (b2 x).2 ((a2 x).1 hx))) (nodup_len_le _ _ (b3 hp) (fun x hx => (a2 x).2 ((b2 x).1 hx)))
/-- Solve's loop: it stops at the m-th answer -/
noncomputable def findM (ps : List PL) (vars : List Int) (o : SOpt) : Nat → Nat → List Ds → List (List Int) × Bool
  | 0, _, _ => ([], false)
  | _ + 1, _, [] => ([], false)
  | _ + 1, 0, _ :: _ => ([], true)
  | m + 1, n + 1, D :: st => match theFix ps D with
    | none => findM ps vars o (m + 1) n st
    | some now => match chooseL now vars o.sel o.ws vars.length with
      | none => (vars.map (fun v => (endsL (norm (domOf now v))).1) :: (findM ps vars o m n st).1, (findM ps vars o m n st).2)
      | some k => findM ps vars o (m + 1) n ((partAt now (vars.getD k 0).toNat o).1 :: (partAt now (vars.getD k 0).toNat o).2 :: st)
theorem findM_eq (ps : List PL) (vars : List Int) (o : SOpt) : ∀ (n m : Nat) (st : List Ds), (findM ps vars o m n st).1 = (find ps vars o n st).1.take m ∧ (m ≤ (find ps vars o n st).1.length → (findM ps vars o m n st).2 = false) ∧ ((find ps vars o n st).1.length < m → (findM ps vars o m n st).2 = (find ps vars o n st).2)
  | n, 0, st => by cases n <;> cases st <;> simp [findM]
  | n, m + 1, [] => by cases n <;> simp [findM, find]
  | 0, m + 1, D :: st => by simp [findM, find]
  | n + 1, m + 1, D :: st => by
    rw [findM, find]
    cases theFix ps D with
    | none => exact findM_eq ps vars o n (m + 1) st
    | some now =>
      dsimp only
      cases chooseL now vars o.sel o.ws vars.length with
      | none =>
        dsimp only
        obtain ⟨a, b, c⟩ := findM_eq ps vars o n m st
        refine ⟨by rw [a, List.take_succ_cons], fun h => b (by simpa using h), fun h => c (by simpa using h)⟩
      | some k => exact findM_eq ps vars o n (m + 1) _
end Go.Proofs.YtaekdgikgbdnnaaGreat
namespace Go.Proofs.YtaekdgikgbdnnaaGreat

/-- the search up to the m-th answer: what it finds, how many nodes are left, whether they ran out -/
noncomputable def findR (ps : List PL) (vars : List Int) (o : SOpt) : Nat → Nat → List Ds → List (List Int) × Nat × Bool
  | 0, n, _ => ([], n, false)
  | _ + 1, n, [] => ([], n, false)
  | _ + 1, 0, _ :: _ => ([], 0, true)
  | m + 1, n + 1, D :: st => match theFix ps D with
    | none => findR ps vars o (m + 1) n st
    | some now => match chooseL now vars o.sel o.ws vars.length with
      | none => (vars.map (fun v => (endsL (norm (domOf now v))).1) :: (findR ps vars o m n st).1, (findR ps vars o m n st).2)
      | some k => findR ps vars o (m + 1) n ((partAt now (vars.getD k 0).toNat o).1 :: (partAt now (vars.getD k 0).toNat o).2 :: st)
theorem findR_M (ps : List PL) (vars : List Int) (o : SOpt) : ∀ (n m : Nat) (st : List Ds), (findR ps vars o m n st).1 = (findM ps vars o m n st).1 ∧ (findR ps vars o m n st).2.2 = (findM ps vars o m n st).2
  | n, 0, st => by cases n <;> cases st <;> exact ⟨rfl, rfl⟩
  | n, m + 1, [] => by cases n <;> exact ⟨rfl, rfl⟩
  | 0, m + 1, D :: st => ⟨rfl, rfl⟩
  | n + 1, m + 1, D :: st => by
    rw [findM, findR]
    cases theFix ps D with
    | none => exact findR_M ps vars o n (m + 1) st
    | some now =>
      dsimp only
      cases chooseL now vars o.sel o.ws vars.length with
      | none =>
        obtain ⟨a, b⟩ := findR_M ps vars o n m st
        dsimp only
        exact ⟨by rw [a], b⟩
      | some k => exact findR_M ps vars o n (m + 1) _
/-- where the search stands: 'pre' has come, k nodes may yet come, st waits -/
def Stands (ps : List PL) (vars : List Int) (o : SOpt) (n0 : Nat) (D0 : Ds) (pre : List (List Int)) (k : Nat) (st : List Ds) : Prop :=
  ∀ m, findR ps vars o (pre.length + (m + 1)) n0 [D0] = (pre ++ (findR ps vars o (m + 1) k st).1, (findR ps vars o (m + 1) k st).2)
theorem Stands.start (ps : List PL) (vars : List Int) (o : SOpt) (n0 : Nat) (D0 : Ds) : Stands ps vars o n0 D0 [] n0 [D0] := fun m => by
  rw [List.length_nil, Nat.zero_add, List.nil_append]
variable {ps : List PL} {vars : List Int} {o : SOpt} {n0 k : Nat} {D0 D now : Ds} {pre : List (List Int)} {st : List Ds}
theorem Stands.gone (h : Stands ps vars o n0 D0 pre (k + 1) (D :: st)) (hf : theFix ps D = none) : Stands ps vars o n0 D0 pre k st := fun m => by
  rw [h m]; conv => lhs; rw [findR, hf]
theorem Stands.part {i : Nat} (h : Stands ps vars o n0 D0 pre (k + 1) (D :: st)) (hf : theFix ps D = some now) (hc : chooseL now vars o.sel o.ws vars.length = some i) :
    Stands ps vars o n0 D0 pre k ((partAt now (vars.getD i 0).toNat o).1 :: (partAt now (vars.getD i 0).toNat o).2 :: st) := fun m => by
  rw [h m]; conv => lhs; rw [findR, hf]; dsimp only; rw [hc]
theorem Stands.leaf (h : Stands ps vars o n0 D0 pre (k + 1) (D :: st)) (hf : theFix ps D = some now) (hc : chooseL now vars o.sel o.ws vars.length = none) :
    findR ps vars o (pre ++ [vars.map (fun v => (endsL (norm (domOf now v))).1)]).length n0 [D0] = (pre ++ [vars.map (fun v => (endsL (norm (domOf now v))).1)], k, false) ∧
    Stands ps vars o n0 D0 (pre ++ [vars.map (fun v => (endsL (norm (domOf now v))).1)]) k st := by
  have e : ∀ m, findR ps vars o (m + 1) (k + 1) (D :: st) = (vars.map (fun v => (endsL (norm (domOf now v))).1) :: (findR ps vars o m k st).1, (findR ps vars o m k st).2) := fun m => by
    conv => lhs; rw [findR, hf]; dsimp only; rw [hc]
  constructor
  · have := h 0
    rw [e 0] at this
    rw [List.length_append, List.length_singleton]
    cases k <;> exact this
  · intro m
    have := h (m + 1)
    rw [e (m + 1)] at this
    rw [List.length_append, List.length_singleton, show pre.length + 1 + (m + 1) = pre.length + (m + 1 + 1) by omega, this, List.append_assoc]
    rfl
theorem Stands.done (h : Stands ps vars o n0 D0 pre k []) (m : Nat) : findR ps vars o (pre.length + (m + 1)) n0 [D0] = (pre, k, false) := by
  rw [h m]; cases k <;> simp [findR]
theorem Stands.over (h : Stands ps vars o n0 D0 pre 0 (D :: st)) (m : Nat) : findR ps vars o (pre.length + (m + 1)) n0 [D0] = (pre, 0, true) := by
  rw [h m]; simp [findR]
end Go.Proofs.YtaekdgikgbdnnaaGreat
namespace Go.Proofs.YtaekdgikgbdnnaaGreat
open Go.RowKit

theorem Tryz.infoRgss : (Tryz.prog.info? 22).map (fun i => (i.zero, i.size, i.bytes)) = some (some (.slice none 0 0), 1, 24) := by kernel_rfl
theorem mk_ints (n : Nat) (hn : n ≤ 4096) (W : World) : (Instr.makeSlice 26 (.int .i64 n) (.int .i64 n)).run Tryz.prog W = .ok (.slice (some ⟨W.heap.size, 0, none⟩) n n) (W.alloc (.cells (madeCells #[.int .i64 0] n) 3)) := by
  obtain ⟨i0, hi, hz0, hz1, hz2⟩ := info_parts Tryz.infoIntR
  have h := run_make (P := Tryz.prog) W 26 3 i0 (.int .i64 0) Tryz.underlying26 hi hz0 .i64 .i64 n n (by omega) (Int.le_refl _) (by rw [hz2]; omega) (by omega)
  rw [h, hz1]
  simp [Value.cells]
/-- the search's own block -/
structure Srch (W : World) (sb : Nat) (vps vv : Value) (sel ord br : Int) (vw : Value) (k : Int) (ov : Bool) : Prop where
  c0 : W.cell? ⟨sb, 0, none⟩ = some vps
  c1 : W.cell? ⟨sb, 1, none⟩ = some vv
  c2 : W.cell? ⟨sb, 2, none⟩ = some (.int .i64 sel)
  c3 : W.cell? ⟨sb, 3, none⟩ = some (.int .i64 ord)
  c4 : W.cell? ⟨sb, 4, none⟩ = some (.int .i64 br)
  c5 : W.cell? ⟨sb, 5, none⟩ = some vw
  c6 : W.cell? ⟨sb, 6, none⟩ = some (.int .i64 k)
  c7 : W.cell? ⟨sb, 7, none⟩ = some (.bool ov)
  f6 : W.frozen? ⟨sb, 6, none⟩ = false
  f7 : W.frozen? ⟨sb, 7, none⟩ = false
theorem Srch.on {W W' : World} {sb : Nat} {vps vv vw : Value} {sel ord br k : Int} {ov : Bool} (h : Srch W sb vps vv sel ord br vw k ov) (hb : W'.heap[sb]? = W.heap[sb]?) : Srch W' sb vps vv sel ord br vw k ov := by
  have c : ∀ (o : Nat) v, W.cell? ⟨sb, o, none⟩ = some v → W'.cell? ⟨sb, o, none⟩ = some v := fun o v h => (World.cell?_of_block (a := ⟨sb, o, none⟩) hb).trans h
  have f : ∀ (o : Nat), W.frozen? ⟨sb, o, none⟩ = false → W'.frozen? ⟨sb, o, none⟩ = false := fun o h => (World.frozen?_of_block (a := ⟨sb, o, none⟩) hb).trans h
  exact ⟨c _ _ h.c0, c _ _ h.c1, c _ _ h.c2, c _ _ h.c3, c _ _ h.c4, c _ _ h.c5, c _ _ h.c6, c _ _ h.c7, f _ h.f6, f _ h.f7⟩
theorem Srch.lt {W : World} {sb : Nat} {vps vv vw : Value} {sel ord br k : Int} {ov : Bool} (h : Srch W sb vps vv sel ord br vw k ov) : sb < W.heap.size := World.block_lt_of_cell? W ⟨sb, 0, none⟩ h.c0
theorem cell_set_ne {W : World} {b o o' : Nat} {u v : Value} (h : W.cell? ⟨b, o', none⟩ = some v) (hne : o ≠ o') : (W.setCell ⟨b, o, none⟩ u).cell? ⟨b, o', none⟩ = some v := by
  rw [World.cell?_setCell_other _ _ _ _ (fun h => by cases h; exact hne rfl)]; exact h
theorem Srch.left {W : World} {sb : Nat} {vps vv vw : Value} {sel ord br k : Int} {ov : Bool} (h : Srch W sb vps vv sel ord br vw k ov) (z : Int) : Srch (W.setCell ⟨sb, 6, none⟩ (.int .i64 z)) sb vps vv sel ord br vw z ov :=
  ⟨cell_set_ne h.c0 (by decide), cell_set_ne h.c1 (by decide), cell_set_ne h.c2 (by decide), cell_set_ne h.c3 (by decide), cell_set_ne h.c4 (by decide), cell_set_ne h.c5 (by decide), World.cell?_setCell_same _ _ _ h.c6, cell_set_ne h.c7 (by decide), by rw [World.frozen?_setCell]; exact h.f6, by rw [World.frozen?_setCell]; exact h.f7⟩
theorem Srch.over {W : World} {sb : Nat} {vps vv vw : Value} {sel ord br k : Int} {ov : Bool} (h : Srch W sb vps vv sel ord br vw k ov) (z : Bool) : Srch (W.setCell ⟨sb, 7, none⟩ (.bool z)) sb vps vv sel ord br vw k z :=
  ⟨cell_set_ne h.c0 (by decide), cell_set_ne h.c1 (by decide), cell_set_ne h.c2 (by decide), cell_set_ne h.c3 (by decide), cell_set_ne h.c4 (by decide), cell_set_ne h.c5 (by decide), cell_set_ne h.c6 (by decide), World.cell?_setCell_same _ _ _ h.c7, by rw [World.frozen?_setCell]; exact h.f6, by rw [World.frozen?_setCell]; exact h.f7⟩
theorem setCell_blk (W : World) (a : Addr) (u : Value) : (W.setCell a u).heap.size = W.heap.size ∧ ∀ b, b ≠ a.block → (W.setCell a u).heap[b]? = W.heap[b]? :=
  ⟨by simp [World.setCell], fun b hb => Below.heap_setCell _ _ _ _ hb⟩

/-- the answer's places, k of them told -/
def fillL (f : Int → Int) (vars : List Int) (k : Nat) : List Value := (List.range vars.length).map (fun j => Value.int .i64 (if j < k then f (vars.getD j 0) else 0))
theorem fill_zero (f : Int → Int) (vars : List Int) : fillL f vars 0 = List.replicate vars.length (.int .i64 0) := by
  apply List.ext_getElem (by simp [fillL])
  intro j h1 h2
  simp [fillL]
theorem fill_step (f : Int → Int) (vars : List Int) (k : Nat) (hk : k < vars.length) : (fillL f vars k).set k (.int .i64 (f vars[k])) = fillL f vars (k + 1) := by
  apply List.ext_getElem (by simp [fillL])
  intro j h1 h2
  rw [List.getElem_set]
  by_cases e : k = j
  · subst e
    simp [fillL, hk]
  · rw [if_neg e]
    simp only [fillL, List.getElem_map, List.getElem_range]
    congr 1
    by_cases h : j < k
    · rw [if_pos h, if_pos (by omega)]
    · rw [if_neg h, if_neg (by omega)]
theorem fill_all (f : Int → Int) (vars : List Int) : fillL f vars vars.length = (vars.map f).map (Value.int .i64) := by
  apply List.ext_getElem (by simp [fillL])
  intro j h1 h2
  simp [fillL] at h1
  simp [fillL, h1]
theorem FixIn.set {now : Ds} {ps : List PL} (h : FixIn now ps) (hn : AllN now) {d : List Rg} (hd : Normal d) (v : Nat) : FixIn (now.set v d) ps := by
  have hn' : AllN (now.set v d) := fun j => by
    rw [getD_set]
    split
    · exact hd
    · exact hn j
  exact ⟨fun p hp => (h.fine p hp).now (by rw [List.length_set]) hn', h.ok, by rw [List.length_set]; exact h.n, allN_short' hn', h.P⟩

/-- what is known at the search's start -/
structure AnsIn (w0 W : World) (bd bs sb : Nat) (vd vps vv vw : Value) (D0 : Ds) (ps : List PL) (vars ws : List Int) (sel ord br : Int) (k0 : Nat) (M0 : Nat → Prop) : Prop where
  p : PsAt w0 vps ps
  v : IsAt w0 vv vars
  w : IsAt w0 vw ws
  b : Below w0.heap.size w0 W
  s : Srch W sb vps vv sel ord br vw k0 false
  bx : W.cell? ⟨bs, 0, none⟩ = some (.pointer (some ⟨sb, 0, none⟩))
  bxd : W.cell? ⟨bd, 0, none⟩ = some vd
  d : DsQ (fun b => ¬ M0 b ∧ b ≠ sb) W vd D0
  sl : w0.heap.size ≤ sb
  ns : bs ≠ sb
  ms : ¬ M0 sb
  mb : ¬ M0 bs
  ml : ∀ b, M0 b → w0.heap.size ≤ b
  fin : FixIn D0 ps
  vin : ∀ v ∈ vars, 0 ≤ v ∧ v.toNat < D0.length
  vl : vars.length ≤ 64
  k : k0 ≤ 10000
  sel : sel = 0 ∨ sel = 1 ∨ sel = 2 ∨ sel = 3 ∨ sel = 4
  ord : ord = 0 ∨ ord = 1
  br : br = 0 ∨ br = 1
/-- an answer's value -/
def GotI (n0 sb len : Nat) (x : Value × List Int) (W : World) : Prop := IsAt W x.1 x.2 ∧ (∀ b, x.1.ownBlock = some b → n0 ≤ b ∧ b ≠ sb) ∧ x.2.length = len ∧ ∀ z ∈ x.2, -200 ≤ z ∧ z ≤ 200
def ownI (x : Value × List Int) (b : Nat) : Prop := x.1.ownBlock = some b
def AnsDone (ps : List PL) (vars : List Int) (o : SOpt) (k0 : Nat) (D0 : Ds) (sb : Nat) (vps vv vw : Value) (xs : List (Value × List Int)) (W : World) : Prop :=
  ∃ (k : Int) (n : Nat) (ov : Bool), Srch W sb vps vv o.sel o.ord o.br vw k ov ∧ (ov = false → k = n) ∧ ∀ m, findR ps vars o (xs.length + (m + 1)) k0 [D0] = (xs.map Prod.snd, n, ov)
def AnsStop (ps : List PL) (vars : List Int) (o : SOpt) (k0 : Nat) (D0 : Ds) (sb : Nat) (vps vv vw : Value) (xs : List (Value × List Int)) (W : World) : Prop :=
  ∃ n : Nat, Srch W sb vps vv o.sel o.ord o.br vw n false ∧ findR ps vars o xs.length k0 [D0] = (xs.map Prod.snd, n, false)
/-- the state at the loop's head -/
structure AnsW (J : List (Value × List Int) → (Nat → Prop) → World → Prop) (n0 : Nat) (W0 : World) (bs sb : Nat) (vps vv vw : Value) (D0 : Ds) (ps : List PL) (o : SOpt)
    (wr : World) (pre : List (Value × List Int)) (M : Nat → Prop) (g cap : Nat) (st : List Ds) (us : List Value) (k : Nat) : Prop where
  j : J pre M wr
  ml : ∀ b, M b → n0 ≤ b
  nl : n0 ≤ W0.heap.size
  b : Below n0 W0 wr
  s : Srch wr sb vps vv o.sel o.ord o.br vw k false
  bx : wr.cell? ⟨bs, 0, none⟩ = some (.pointer (some ⟨sb, 0, none⟩))
  ms : ¬ M sb
  mb : ¬ M bs
  ns : bs ≠ sb
  sl : n0 ≤ sb
  gb : g ≠ bs
  stk : StAt (fun b => ¬ M b ∧ b ≠ sb) wr n0 g cap st us
  fin : ∀ D ∈ st, FixIn D ps ∧ D.length = D0.length
variable {J : List (Value × List Int) → (Nat → Prop) → World → Prop} {w0 W0 wr : World} {n0 bs sb g cap k : Nat} {vps vv vw : Value} {D0 D : Ds} {ps : List PL} {vars : List Int} {o : SOpt} {k0 : Nat}
  {pre : List (Value × List Int)} {M : Nat → Prop} {st : List Ds} {us : List Value}
theorem AnsW.below (h : AnsW J n0 W0 bs sb vps vv vw D0 ps o wr pre M g cap st us k) (hJ : Rests J) (hl : Lies J) {W' : World} (hb : Below wr.heap.size wr W') : AnsW J n0 W0 bs sb vps vv vw D0 ps o W' pre M g cap st us k :=
  { h with
    j := hJ _ _ _ _ h.j hb.size (fun b hm => hb.block b (hl _ _ _ h.j b hm))
    b := h.b.trans (hb.mono (Nat.le_trans h.nl h.b.size))
    s := h.s.on (hb.block _ h.s.lt)
    bx := (hb.cell (p := ⟨bs, 0, none⟩) (World.block_lt_of_cell? wr _ h.bx)).trans h.bx
    stk := h.stk.below hb }
theorem AnsW.dec (h : AnsW J n0 W0 bs sb vps vv vw D0 ps o wr pre M g cap (D :: st) us (k + 1)) (hJ : Rests J) : AnsW J n0 W0 bs sb vps vv vw D0 ps o (wr.setCell ⟨sb, 6, none⟩ (.int .i64 k)) pre M g cap st (us.take st.length) k := by
  obtain ⟨hs, hb⟩ := setCell_blk wr ⟨sb, 6, none⟩ (.int .i64 k)
  exact { h with
    j := hJ _ _ _ _ h.j (Nat.le_of_eq hs.symm) (fun b hm => hb b (fun e => h.ms (by dsimp only at e; rw [← e]; exact hm)))
    b := h.b.setCell (p := ⟨sb, 6, none⟩) h.sl _
    s := h.s.left _
    bx := (World.cell?_of_block (a := ⟨bs, 0, none⟩) (hb bs h.ns)).trans h.bx
    stk := h.stk.pop.on (Nat.le_of_eq hs.symm) (fun b _ hq => hb b hq.2)
    fin := fun E hE => h.fin E (List.mem_cons_of_mem _ hE) }
theorem AnsW.glt (h : AnsW J n0 W0 bs sb vps vv vw D0 ps o wr pre M g cap st us k) : g < wr.heap.size := h.stk.lt.2
/-- what lies in newer memory is none of the search's -/
theorem AnsW.new (h : AnsW J n0 W0 bs sb vps vv vw D0 ps o wr pre M g cap st us k) (hl : Lies J) : ∀ b, wr.heap.size ≤ b → (¬ M b ∧ b ≠ sb) ∧ b ≠ g := fun b hb =>
  ⟨⟨fun hm => by have := hl _ _ _ h.j b hm; omega, by have := h.s.lt; omega⟩, by have := h.glt; omega⟩
/-- two more lists -/
theorem AnsW.push (h : AnsW J n0 W0 bs sb vps vv vw D0 ps o wr pre M g cap st us k) (hJ : Rests J) (hl : Lies J) {W W' : World} {g' cap' : Nat} {a b : Ds} {ua ub : Value} (hb : Below wr.heap.size wr W)
    (ha : DsQ (fun b => (¬ M b ∧ b ≠ sb) ∧ b ≠ g) W ua a) (hub : DsQ (fun b => (¬ M b ∧ b ≠ sb) ∧ b ≠ g) W ub b) (fa : FixIn a ps ∧ a.length = D0.length) (fb : FixIn b ps ∧ b.length = D0.length)
    (ho : W'.ownsRow n0 22 1 (.slice (some ⟨g', 0, none⟩) (st.length + 2) cap') (st.length + 2) (us ++ [ub, ua])) (hgr : W.grownBy W' (some g)) (hg : g' = g ∨ W.heap.size ≤ g') (hlow : n0 ≤ g) :
    AnsW J n0 W0 bs sb vps vv vw D0 ps o W' pre M g' cap' (a :: b :: st) (us ++ [ub, ua]) k := by
  have h1 := h.below hJ hl hb
  have hk : ∀ k, k < W.heap.size → k ≠ g → W'.heap[k]? = W.heap[k]? := fun k hk hne => hgr.block k hk (fun e => hne (Option.some.inj e))
  have hMg : ∀ b, M b → b ≠ g := fun b hm e => h1.stk.good.1 (e ▸ hm)
  exact { h1 with
    j := hJ _ _ _ _ h1.j hgr.size (fun b hm => hk b (hl _ _ _ h1.j b hm) (hMg b hm))
    b := h1.b.grown hgr (Nat.le_trans h1.nl h1.b.size) (fun x e => by cases e; exact hlow)
    s := h1.s.on (hk sb h1.s.lt (fun e => h1.stk.good.2 e.symm))
    bx := (World.cell?_of_block (a := ⟨bs, 0, none⟩) (hk bs (World.block_lt_of_cell? W _ h1.bx) (fun e => h.gb e.symm))).trans h1.bx
    gb := by
      rcases hg with e | e
      · rw [e]; exact h.gb
      · have := World.block_lt_of_cell? W _ h1.bx
        dsimp only at this
        omega
    stk := h1.stk.push ha hub ho hgr.size hk (hg.imp id (fun e => ⟨e, fun hm => by have := hl _ _ _ h1.j _ hm; omega, by have := h1.s.lt; omega⟩))
    fin := fun E hE => by
      rcases List.mem_cons.1 hE with rfl | hE
      · exact fa
      · rcases List.mem_cons.1 hE with rfl | hE
        · exact fb
        · exact h.fin E hE }
/-- behind a round -/
theorem AnsW.round {J2 : List (Value × List Int) → (Nat → Prop) → World → Prop} (h : AnsW J n0 W0 bs sb vps vv vw D0 ps o wr pre M g cap st us k) {W' : World} {x : Value × List Int} {pre' : List (Value × List Int)} {M' : Nat → Prop} (hx : ∀ b, ownI x b → n0 ≤ b ∧ b ≠ sb ∧ b ≠ bs)
    (hM : ∀ b, M' b → (M b ∨ ownI x b) ∨ wr.heap.size ≤ b) (hA : Agr (fun b => M b ∨ ownI x b) wr W') (hj : J2 pre' M' W')
    (hst : StAt (fun b => (¬ M b ∧ b ≠ sb) ∧ ¬ ownI x b) wr n0 g cap st us) : AnsW J2 n0 W0 bs sb vps vv vw D0 ps o W' pre' M' g cap st us k := by
  have hsz := Nat.le_trans h.nl h.b.size
  have hsb := h.s.lt
  have hbs := World.block_lt_of_cell? wr _ h.bx
  dsimp only at hbs
  have hnot : ∀ b, b < wr.heap.size → ¬ M b → ¬ ownI x b → ¬ M' b := fun b hb h1 h2 hm => by
    rcases hM b hm with (e | e) | e
    · exact h1 e
    · exact h2 e
    · omega
  have hms : ¬ ownI x sb := fun e => (hx _ e).2.1 rfl
  have hmb : ¬ ownI x bs := fun e => (hx _ e).2.2 rfl
  exact { h with
    j := hj
    ml := fun b hm => by
      rcases hM b hm with (e | e) | e
      · exact h.ml b e
      · exact (hx b e).1
      · omega
    b := h.b.trans (hA.below hsz (fun b e => by
      rcases e with e | e
      · exact h.ml b e
      · exact (hx b e).1))
    s := h.s.on (hA.same _ hsb (fun e => e.elim h.ms hms))
    bx := (World.cell?_of_block (a := ⟨bs, 0, none⟩) (hA.same _ hbs (fun e => e.elim h.mb hmb))).trans h.bx
    ms := hnot _ hsb h.ms hms
    mb := hnot _ hbs h.mb hmb
    stk := ((hst.weaken (Q' := fun b => (¬ M' b ∧ b ≠ sb) ∧ ((¬ M b ∧ b ≠ sb) ∧ ¬ ownI x b)) (fun b hb hq => ⟨⟨hnot b hb hq.1.1 hq.2, hq.1.2⟩, hq⟩)).on hA.low.size (fun b hb hq => hA.same b hb (fun e => e.elim hq.2.1.1 hq.2.2))).weaken (fun b _ hq => hq.1) }
theorem AnsW.start {W : World} {bd : Nat} {vd : Value} {ws : List Int} (h : AnsIn w0 W bd bs sb vd vps vv vw D0 ps vars ws o.sel o.ord o.br k0 M) (hJ : Rests J) (hl : Lies J) (hj : J [] M W) :
    AnsW J w0.heap.size W bs sb vps vv vw D0 ps o (W.alloc (.cells #[vd] 22)) [] M W.heap.size 1 [D0] [vd] k0 := by
  have hb : Below W.heap.size W (W.alloc (.cells #[vd] 22)) := (Below.refl _ _).alloc (Nat.le_refl _) _
  have hbs := World.block_lt_of_cell? W _ h.bx
  dsimp only at hbs
  exact {
    j := hJ _ _ _ _ hj hb.size (fun b hm => hb.block b (hl _ _ _ hj b hm))
    ml := h.ml
    nl := h.b.size
    b := hb.mono h.b.size
    s := h.s.on (hb.block _ h.s.lt)
    bx := (hb.cell (p := ⟨bs, 0, none⟩) hbs).trans h.bx
    ms := h.ms
    mb := h.mb
    ns := h.ns
    sl := h.sl
    gb := by omega
    stk := StAt.one h.d ⟨fun hm => by have := hl _ _ _ hj _ hm; omega, by have := h.s.lt; omega⟩ h.b.size
    fin := fun E hE => by rw [List.mem_singleton.1 hE]; exact ⟨h.fin, rfl⟩ }
theorem StAt.room {Q : Nat → Prop} {W : World} {B g cap : Nat} {st : List Ds} {us : List Value} (h : StAt Q W B g cap st us) : st.length ≤ cap ∧ cap ≤ maxLen := by
  rcases h.own.2 with ⟨e, _⟩ | ⟨g', cap', cur, he, _, _, a3, a4, _⟩
  · cases e
  · simp only [Value.slice.injEq, Option.some.injEq, Addr.mk.injEq, and_true, true_and] at he
    obtain ⟨_, rfl⟩ := he
    exact ⟨a3, a4⟩
theorem AnsW.jset (h : AnsW J n0 W0 bs sb vps vv vw D0 ps o wr pre M g cap st us k) (hJ : Rests J) {W' : World} (hs : wr.heap.size ≤ W'.heap.size) (hb : ∀ b, b ≠ sb → W'.heap[b]? = wr.heap[b]?) : J pre M W' :=
  hJ _ _ _ _ h.j hs (fun b hm => hb b (fun e => h.ms (e ▸ hm)))
theorem theFix_some {ps : List PL} {D : Ds} (h : FixIn D ps) : FixOf ps D (theFix ps D) := by
  obtain ⟨R, hR⟩ := fixOf_exists (ps := ps) (D := D) (fun p hp => (h.fine p hp).good)
  rw [theFix_eq hR]; exact hR
end Go.Proofs.YtaekdgikgbdnnaaGreat
