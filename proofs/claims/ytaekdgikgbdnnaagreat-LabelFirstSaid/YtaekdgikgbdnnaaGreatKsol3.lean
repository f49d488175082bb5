/-
  fix.Fix with what it comes to named ahead; Check of no constraint, and of one of no kind.
  PLAIN LAWS of the search (layer 19): its nodes, its answers, what a part keeps; no program.
  PLAIN LAWS of the search, step by step: what is found so far, how many nodes are left; no program.
-/
import Derived.Test.YtaekdgikgbdnnaaGreatKflaw1
import Derived.Test.YtaekdgikgbdnnaaGreatKsol2
import Derived.Test.YtaekdgikgbdnnaaGreatKlabel1
namespace Go.Proofs.YtaekdgikgbdnnaaGreat
open Go.RowKit

theorem fixOf_exists {ps : List PL} {D : Ds} (hg : ∀ p ∈ ps, p.Good D.length) : ∃ R, FixOf ps D R := by
  have go : ∀ (n : Nat) (now : Ds), tot now ≤ n → OnWay ps D now → ∃ R, FixOf ps D R := by
    intro n
    induction n with
    | zero =>
      intro now hn h
      by_cases hs : ∀ p ∈ ps, onceP p now = some now
      · exact ⟨_, onWay_end h hs⟩
      · simp only [Classical.not_forall] at hs
        obtain ⟨p, hp, hne⟩ := hs
        cases ho : onceP p now with
        | none => exact ⟨_, onWay_gone hp (hg p hp) h ho⟩
        | some d =>
          have := (once_tot h.nor ho).2 (fun e => hne (by rw [ho, e]))
          omega
    | succ n ih =>
      intro now hn h
      by_cases hs : ∀ p ∈ ps, onceP p now = some now
      · exact ⟨_, onWay_end h hs⟩
      · simp only [Classical.not_forall] at hs
        obtain ⟨p, hp, hne⟩ := hs
        cases ho : onceP p now with
        | none => exact ⟨_, onWay_gone hp (hg p hp) h ho⟩
        | some d =>
          have := (once_tot h.nor ho).2 (fun e => hne (by rw [ho, e]))
          exact ih d (by omega) (onWay_step hp (hg p hp) h ho)
  by_cases he : ∀ j, (hj : j < D.length) → norm D[j] ≠ []
  · exact go _ _ (Nat.le_refl _) (onWay_start (allE_of he))
  · simp only [Classical.not_forall] at he
    obtain ⟨j, hj, hn⟩ := he
    exact ⟨none, onWay_none hj (by rw [List.getD_eq_getElem?_getD, List.getElem?_eq_getElem hj]; exact Classical.not_not.1 hn)⟩
theorem fix_r {ds : Ds} {ps : List PL} {vds vps : Value} {w : World} (hd : DsAt w vds ds) (hp : PsAt w vps ps) (hin : FixIn ds ps) {R : Option Ds} (hR : FixOf ps ds R) : Calls Tryz.prog 43 #[vds, vps] w (RetO R w) :=
  (fix_c ds ps vds vps w hd hp hin).mono fun _ _ ⟨_, h1, h2⟩ => by rw [fixOf_unique hR h1]; exact h2.toO
theorem fix_f {ds : Ds} {ps : List PL} {vds vps : Value} {w : World} (hd : DsAt w vds ds) (hp : PsAt w vps ps) (hin : FixIn ds ps) {R : Option Ds} (hR : FixOf ps ds R) : Calls Tryz.prog 43 #[vds, vps] w (RetF R w) :=
  (fix_c ds ps vds vps w hd hp hin).mono fun _ _ ⟨_, h1, h2⟩ => by rw [fixOf_unique hR h1]; exact h2
theorem FixIn.res {ds r : Ds} {ps : List PL} (h : FixIn ds ps) (hr : FixOf ps ds (some r)) : FixIn r ps :=
  ⟨fun p hp => (h.fine p hp).now hr.1.len hr.1.nor, h.ok, by rw [hr.1.len]; exact h.n, allN_short' hr.1.nor, h.P⟩
def p0 : PL := ⟨0, 0, 0, 0, 0, 0, [], [], []⟩
theorem p0_at (w : World) (T : TypeId) : PsAt (w.alloc (.cells #[.int .i64 0, .slice none 0 0, .slice none 0 0, .int .i64 0, .int .i64 0, .int .i64 0, .int .i64 0, .int .i64 0, .slice none 0 0] T)) (.slice (some ⟨w.heap.size, 0, none⟩) 1 1) [p0] := by
  have B := BoxL.mk' w #[.int .i64 0, .slice none 0 0, .slice none 0 0, .int .i64 0, .int .i64 0, .int .i64 0, .int .i64 0, .int .i64 0, .slice none 0 0] T
  refine ⟨_, 1, rfl, Nat.le_refl _, by decide, fun _ => ⟨w.heap.size, 0, rfl, by simp, fun j hj => ?_⟩⟩
  obtain rfl : j = 0 := by simpa using hj
  refine ⟨.slice none 0 0, .slice none 0 0, .slice none 0 0, ⟨(B.get 0 rfl).1, (B.get 1 rfl).1, (B.get 2 rfl).1, (B.get 3 rfl).1, (B.get 4 rfl).1, (B.get 5 rfl).1, (B.get 6 rfl).1, (B.get 7 rfl).1, (B.get 8 rfl).1⟩, SlAt.nil, SlAt.nil, SlAt.nil⟩
/-- a constraint of no kind is none -/
theorem fixCheck_p0 (w : World) (T : TypeId) : Calls Tryz.prog 39 #[.slice none 0 0, .slice (some ⟨w.heap.size, 0, none⟩) 1 1] (w.alloc (.cells #[.int .i64 0, .slice none 0 0, .slice none 0 0, .int .i64 0, .int .i64 0, .int .i64 0, .int .i64 0, .int .i64 0, .slice none 0 0] T)) fun e w' => e = .returned (.int .i64 1) ∧ Below w.heap.size w w' := by
  have hz : Below w.heap.size w (w.alloc (.cells #[.int .i64 0, .slice none 0 0, .slice none 0 0, .int .i64 0, .int .i64 0, .int .i64 0, .int .i64 0, .int .i64 0, .slice none 0 0] T)) := (Below.refl _ _).alloc (Nat.le_refl _) _
  refine (fixCheck_c (.slice none 0 0) _ [] [p0] _ DsAt.nil (p0_at w T) (fun j hj => ?_)).mono fun e w' ⟨h1, h2⟩ => ⟨by rw [h1]; rfl, hz.trans (h2.mono hz.size)⟩
  obtain rfl : j = 0 := by simpa using hj
  show p0.ok
  clear hj
  exact ⟨by decide, by decide, by decide⟩
theorem ps_nil (w : World) : PsAt w (.slice none 0 0) [] := ⟨none, 0, rfl, Nat.le_refl _, by decide, fun h => by simp at h⟩
theorem fixCheck_nil (w : World) : Calls Tryz.prog 39 #[.slice none 0 0, .slice none 0 0] w fun e w' => e = .returned (.int .i64 0) ∧ Below w.heap.size w w' :=
  (fixCheck_c (.slice none 0 0) (.slice none 0 0) [] [] w DsAt.nil (ps_nil w) (fun j hj => by simp at hj)).mono fun e w' ⟨h1, h2⟩ => ⟨by rw [h1]; rfl, h2⟩
end Go.Proofs.YtaekdgikgbdnnaaGreat
namespace Go.Proofs.YtaekdgikgbdnnaaGreat

/-- what constraints come to together -/
noncomputable def theFix (ps : List PL) (D : Ds) : Option Ds := @dite _ (∃ R, FixOf ps D R) (Classical.propDecidable _) (fun h => Classical.choose h) (fun _ => none)
theorem theFix_eq {ps : List PL} {D : Ds} {R : Option Ds} (h : FixOf ps D R) : theFix ps D = R := by
  have hx : ∃ R, FixOf ps D R := ⟨R, h⟩
  unfold theFix
  rw [dif_pos hx]
  exact fixOf_unique (Classical.choose_spec hx) h
structure SOpt where
  sel : Int
  ord : Int
  br : Int
  ws : List Int
def partAt (now : Ds) (v : Nat) (o : SOpt) : Ds × Ds := (now.set v (splitL (now.getD v []) o.ord o.br).1, now.set v (splitL (now.getD v []) o.ord o.br).2)
/-- the search: what it finds of a stack, with so many nodes yet; and whether these ran out -/
noncomputable def find (ps : List PL) (vars : List Int) (o : SOpt) : Nat → List Ds → List (List Int) × Bool
  | _, [] => ([], false)
  | 0, _ :: _ => ([], true)
  | n + 1, D :: st => match theFix ps D with
    | none => find ps vars o n st
    | some now => match chooseL now vars o.sel o.ws vars.length with
      | none => (vars.map (fun v => (endsL (norm (domOf now v))).1) :: (find ps vars o n st).1, (find ps vars o n st).2)
      | some k => find ps vars o n ((partAt now (vars.getD k 0).toNat o).1 :: (partAt now (vars.getD k 0).toNat o).2 :: st)
/-- values of the domains for which all constraints hold -/
def Sol (ps : List PL) (D : Ds) (x : List Int) : Prop := Has (D.map norm) x ∧ ∀ p ∈ ps, holdsP p x = true
theorem has_bnd {D : Ds} {x : List Int} (h : Has (D.map norm) x) : ∀ v ∈ x, -200 ≤ v ∧ v ≤ 200 := fun v hv => by
  obtain ⟨j, hj, rfl⟩ := List.mem_iff_getElem.1 hv
  have h1 := h.2 j (by rw [← h.1]; exact hj)
  rw [getD_map_norm, List.getD_eq_getElem?_getD (l := x), List.getElem?_eq_getElem hj] at h1
  exact memL_bounds (norm_normal _) h1
theorem sol_iff {ps : List PL} {D : Ds} {R : Option Ds} (hg : ∀ p ∈ ps, p.Lin D.length) (h : FixOf ps D R) (x : List Int) : Sol ps D x ↔ ∃ r, R = some r ∧ Sol ps r x := by
  constructor
  · intro hs
    obtain ⟨r, e, hl, hn, hm⟩ := fixOf_keeps hg (has_bnd hs.1) hs.1 hs.2 h
    refine ⟨r, e, ⟨?_, hs.2⟩⟩
    rw [norm_getD hn]
    have hx := hs.1.1
    rw [List.length_map] at hx
    exact ⟨by rw [hl]; exact hx, fun j hj => hm j (by rw [← hl]; exact hj)⟩
  · rintro ⟨r, rfl, hs⟩
    obtain ⟨hc, _⟩ := h
    have h1 := hs.1
    rw [norm_getD hc.nor] at h1
    exact ⟨⟨by rw [List.length_map, ← hc.len]; exact h1.1, fun j hj => hc.sub j _ (h1.2 j (by rw [hc.len]; simpa using hj))⟩, hs.2⟩
/-- a set's two parts: each integer of it is in just one -/
theorem split_mem {d : List Rg} {ord br : Int} (h : ¬ sizeL (norm d) < 2) (ho : ord = 0 ∨ ord = 1) (hb : br = 0 ∨ br = 1) (z : Int) :
    (memL (norm d) z = true ↔ memL (norm (splitL d ord br).1) z = true ∨ memL (norm (splitL d ord br).2) z = true) ∧ ¬ (memL (norm (splitL d ord br).1) z = true ∧ memL (norm (splitL d ord br).2) z = true) := by
  obtain ⟨_, _, h3, h4⟩ := split_parts d ord br h ho hb
  generalize (splitL d ord br).1 = A at *
  generalize (splitL d ord br).2 = B at *
  have hJ : memL (joinL A B) z = (inD z && (memL A z || memL B z)) := canon_mem _ _
  have hM : memL (meetL A B) z = (inD z && (memL A z && memL B z)) := canon_mem _ _
  rw [h4] at hJ
  rw [h3, memL_nil] at hM
  rw [hJ, memL_norm, memL_norm]
  clear hJ h3 h4
  revert hM
  cases inD z <;> cases memL A z <;> cases memL B z <;> simp
theorem has_set {now : Ds} {v : Nat} (hv : v < now.length) {a : List Rg} {x : List Int} : Has ((now.set v a).map norm) x ↔ x.length = now.length ∧ (∀ j, j < now.length → j ≠ v → memL (norm (now.getD j [])) (x.getD j 0) = true) ∧ memL (norm a) (x.getD v 0) = true := by
  unfold Has
  rw [List.length_map, List.length_set]
  constructor
  · rintro ⟨h1, h2⟩
    refine ⟨h1, fun j hj hne => ?_, ?_⟩
    · have := h2 j hj
      rwa [getD_map_norm, getD_set, if_neg (fun e => hne e.1.symm)] at this
    · have := h2 v hv
      rwa [getD_map_norm, getD_set, if_pos ⟨rfl, hv⟩] at this
  · rintro ⟨h1, h2, h3⟩
    refine ⟨h1, fun j hj => ?_⟩
    rw [getD_map_norm, getD_set]
    by_cases e : v = j
    · subst e; rw [if_pos ⟨rfl, hv⟩]; exact h3
    · rw [if_neg (fun h => e h.1)]; exact h2 j hj (fun h => e h.symm)
theorem has_self {now : Ds} {v : Nat} (hv : v < now.length) {x : List Int} : Has (now.map norm) x ↔ x.length = now.length ∧ (∀ j, j < now.length → j ≠ v → memL (norm (now.getD j [])) (x.getD j 0) = true) ∧ memL (norm (now.getD v [])) (x.getD v 0) = true := by
  unfold Has
  rw [List.length_map]
  constructor
  · rintro ⟨h1, h2⟩
    exact ⟨h1, fun j hj _ => by have := h2 j hj; rwa [getD_map_norm] at this, by have := h2 v hv; rwa [getD_map_norm] at this⟩
  · rintro ⟨h1, h2, h3⟩
    refine ⟨h1, fun j hj => ?_⟩
    rw [getD_map_norm]
    by_cases e : j = v
    · subst e; exact h3
    · exact h2 j hj e
/-- both parts together have the solutions, and none in common -/
theorem part_sol {ps : List PL} {now : Ds} {v : Nat} {o : SOpt} (hv : v < now.length) (h : ¬ sizeL (norm (now.getD v [])) < 2) (ho : o.ord = 0 ∨ o.ord = 1) (hb : o.br = 0 ∨ o.br = 1) (x : List Int) :
    (Sol ps now x ↔ Sol ps (partAt now v o).1 x ∨ Sol ps (partAt now v o).2 x) ∧ ¬ (Sol ps (partAt now v o).1 x ∧ Sol ps (partAt now v o).2 x) := by
  obtain ⟨m1, m2⟩ := split_mem h ho hb (x.getD v 0)
  unfold Sol partAt
  dsimp only
  rw [has_set hv, has_set hv, has_self hv]
  constructor
  · constructor
    · rintro ⟨⟨a, b, c⟩, d⟩
      rcases m1.1 c with e | e
      · exact .inl ⟨⟨a, b, e⟩, d⟩
      · exact .inr ⟨⟨a, b, e⟩, d⟩
    · rintro (⟨⟨a, b, c⟩, d⟩ | ⟨⟨a, b, c⟩, d⟩)
      · exact ⟨⟨a, b, m1.2 (.inl c)⟩, d⟩
      · exact ⟨⟨a, b, m1.2 (.inr c)⟩, d⟩
  · rintro ⟨⟨⟨_, _, c⟩, _⟩, ⟨⟨_, _, c'⟩, _⟩⟩
    exact m2 ⟨c, c'⟩

/-! ### how many nodes there may be -/
def prodN : Ds → Nat
  | [] => 1
  | d :: D => sizeN d * prodN D
theorem prodN_set : ∀ (D : Ds) (v : Nat) (a : List Rg), v < D.length → prodN (D.set v a) * sizeN (D.getD v []) = prodN D * sizeN a
  | [], _, _, h => by simp at h
  | d :: D, 0, a, _ => by
    show sizeN a * prodN D * sizeN d = sizeN d * prodN D * sizeN a
    rw [Nat.mul_right_comm, Nat.mul_comm (sizeN a), Nat.mul_right_comm]
  | d :: D, v + 1, a, h => by
    have ih := prodN_set D v a (by simpa using h)
    show sizeN d * prodN (D.set v a) * sizeN (D.getD v []) = sizeN d * prodN D * sizeN a
    rw [Nat.mul_assoc, ih, Nat.mul_assoc]
theorem prodN_le : ∀ {A B : Ds}, A.length = B.length → (∀ j x, memL (A.getD j []) x = true → memL (B.getD j []) x = true) → prodN A ≤ prodN B
  | [], [], _, _ => Nat.le_refl _
  | [], _ :: _, h, _ => by simp at h
  | _ :: _, [], h, _ => by simp at h
  | a :: A, b :: B, hl, h => Nat.mul_le_mul (sizeN_le (fun x hx => h 0 x hx)) (prodN_le (by simpa using hl) (fun j x hx => h (j + 1) x hx))
/-- so many nodes a problem takes, at most -/
def nodesN (D : Ds) : Nat := 2 * prodN D - 1 + (if prodN D = 0 then 1 else 0)
theorem nodesN_pos (D : Ds) : 1 ≤ nodesN D := by unfold nodesN; split <;> omega
theorem nodesN_le {A B : Ds} (h : prodN A ≤ prodN B) : nodesN A ≤ nodesN B := by unfold nodesN; split <;> split <;> omega
theorem cnt_add2 {S A B : Int → Bool} (h : ∀ x, S x = (A x || B x)) (hd : ∀ x, ¬ (A x = true ∧ B x = true)) : ∀ (k : Nat) (n : Int), cnt S k n = cnt A k n + cnt B k n
  | 0, _ => by simp [cnt]
  | k + 1, n => by
    have ih := cnt_add2 h hd k (n + 1)
    have h1 := h n
    have h2 := hd n
    unfold cnt
    cases hA : A n <;> cases hB : B n <;> simp_all <;> omega
theorem split_normal (d : List Rg) (ord br : Int) : Normal (splitL d ord br).1 ∧ Normal (splitL d ord br).2 := by
  unfold splitL
  split
  · exact ⟨trivial, trivial⟩
  · dsimp only
    split
    · dsimp only; exact ⟨canon_normal _, canon_normal _⟩
    · dsimp only; exact ⟨canon_normal _, canon_normal _⟩
theorem sizeN_pos {d : List Rg} (h : Normal d) (hne : d ≠ []) : 1 ≤ sizeN d := by
  have := sizeN_lt (a := []) (b := d) (show Normal [] from trivial) h (fun x hx => by simp [memL_nil] at hx) (fun e => hne e.symm)
  omega
theorem split_size {d : List Rg} {ord br : Int} (hn : Normal d) (h : ¬ sizeL (norm d) < 2) (ho : ord = 0 ∨ ord = 1) (hb : br = 0 ∨ br = 1) :
    sizeN d = sizeN (splitL d ord br).1 + sizeN (splitL d ord br).2 ∧ 1 ≤ sizeN (splitL d ord br).1 ∧ 1 ≤ sizeN (splitL d ord br).2 := by
  obtain ⟨e1, e2, _, _⟩ := split_parts d ord br h ho hb
  obtain ⟨n1, n2⟩ := split_normal d ord br
  have hd : norm d = d := norm_of_normal hn
  have h1 : norm (splitL d ord br).1 = (splitL d ord br).1 := norm_of_normal n1
  have h2 : norm (splitL d ord br).2 = (splitL d ord br).2 := norm_of_normal n2
  refine ⟨?_, sizeN_pos n1 e1, sizeN_pos n2 e2⟩
  have hm := fun z => split_mem (d := d) (ord := ord) (br := br) h ho hb z
  rw [hd, h1, h2] at hm
  have hc := cnt_add2 (S := memL d) (A := memL (splitL d ord br).1) (B := memL (splitL d ord br).2) (fun x => by rw [Bool.eq_iff_iff, Bool.or_eq_true]; exact (hm x).1) (fun x => (hm x).2) 401 (-200)
  have p1 := cnt_nonneg (memL (splitL d ord br).1) 401 (-200)
  have p2 := cnt_nonneg (memL (splitL d ord br).2) 401 (-200)
  unfold sizeN
  omega
theorem prodN_pos : ∀ {D : Ds}, AllN D → AllE D → 1 ≤ prodN D
  | [], _, _ => Nat.le_refl _
  | d :: D, hn, he => by
    have h1 : 1 ≤ sizeN d := sizeN_pos (hn 0) (he 0 (by simp))
    have h2 := prodN_pos (D := D) (fun j => hn (j + 1)) (fun j hj => he (j + 1) (by simpa using hj))
    exact Nat.mul_pos h1 h2
theorem nodes_parts {now : Ds} {v : Nat} {o : SOpt} (hn : AllN now) (he : AllE now) (hv : v < now.length) (h : ¬ sizeL (norm (now.getD v [])) < 2) (ho : o.ord = 0 ∨ o.ord = 1) (hb : o.br = 0 ∨ o.br = 1) :
    nodesN (partAt now v o).1 + nodesN (partAt now v o).2 + 1 ≤ nodesN now := by
  obtain ⟨s1, s2, s3⟩ := split_size (hn v) h ho hb
  have hP := prodN_pos hn he
  have hA := prodN_set now v (splitL (now.getD v []) o.ord o.br).1 hv
  have hB := prodN_set now v (splitL (now.getD v []) o.ord o.br).2 hv
  unfold partAt nodesN
  dsimp only
  generalize prodN (now.set v (splitL (now.getD v []) o.ord o.br).1) = PA at *
  generalize prodN (now.set v (splitL (now.getD v []) o.ord o.br).2) = PB at *
  generalize sizeN (splitL (now.getD v []) o.ord o.br).1 = a at *
  generalize sizeN (splitL (now.getD v []) o.ord o.br).2 = b at *
  generalize sizeN (now.getD v []) = s at *
  generalize prodN now = P at *
  have hsum : PA + PB = P := by
    have h1 : (PA + PB) * s = P * s := by rw [Nat.add_mul, hA, hB, ← Nat.mul_add, ← s1]
    exact Nat.eq_of_mul_eq_mul_right (by omega) h1
  have hPa : 0 < PA := by
    rcases Nat.eq_zero_or_pos PA with e | e
    · exfalso
      rw [e, Nat.zero_mul] at hA
      have := Nat.mul_pos hP s2
      omega
    · exact e
  have hPb : 0 < PB := by
    rcases Nat.eq_zero_or_pos PB with e | e
    · exfalso
      rw [e, Nat.zero_mul] at hB
      have := Nat.mul_pos hP s3
      omega
    · exact e
  rw [if_neg (by omega), if_neg (by omega), if_neg (by omega)]
  omega

/-! ### leaves -/
theorem single_set {d : List Rg} (hn : Normal d) (hne : d ≠ []) (hs : sizeL (norm d) < 2) : d = [((endsL (norm d)).1, (endsL (norm d)).1)] := by
  have e : norm d = d := norm_of_normal hn
  rw [e] at hs ⊢
  cases d with
  | nil => exact absurd rfl hne
  | cons r rest =>
    obtain ⟨h1, h2, h3, h4⟩ := hn
    have hr : rest = [] := by
      cases rest with
      | nil => rfl
      | cons q l =>
        exfalso
        obtain ⟨g1, g2, g3, g4⟩ := h4
        have hl : 0 ≤ sizeL l := by
          have : ∀ (l : List Rg) (lo : Int), NormFrom lo l → 0 ≤ sizeL l := by
            intro l
            induction l with
            | nil => intro _ _; exact Int.le_refl _
            | cons r l ih => intro lo h; obtain ⟨a, b, c, d⟩ := h; have := ih _ d; unfold sizeL; omega
          exact this l _ g4
        unfold sizeL at hs
        unfold sizeL at hs
        omega
    subst hr
    have h5 : r.1 = r.2 := by unfold sizeL at hs; simp [sizeL] at hs; omega
    show [r] = [(r.1, r.1)]
    rw [show (r.1, r.1) = r from Prod.ext rfl h5]
theorem choose_none {ds : Ds} {vars : List Int} {sel : Int} {ws : List Int} : ∀ {k : Nat}, chooseL ds vars sel ws k = none → ∀ i, i < k → sizeL (norm (domAt ds (vars.getD i 0))) < 2
  | 0, _, i, hi => absurd hi (Nat.not_lt_zero _)
  | k + 1, h, i, hi => by
    unfold chooseL at h
    split at h
    · rename_i hs
      by_cases e : i = k
      · subst e; exact hs
      · exact choose_none h i (by omega)
    · split at h
      · cases h
      · split at h <;> cases h
theorem choose_some {ds : Ds} {vars : List Int} {sel : Int} {ws : List Int} : ∀ {k b : Nat}, chooseL ds vars sel ws k = some b → ¬ sizeL (norm (domAt ds (vars.getD b 0))) < 2
  | 0, b, h => by simp [chooseL] at h
  | k + 1, b, h => by
    unfold chooseL at h
    split at h
    · exact choose_some h
    · rename_i hs
      split at h
      · cases h; exact hs
      · rename_i b' hb
        split at h
        · cases h; exact hs
        · cases h; exact choose_some hb
theorem domAt_nat (ds : Ds) (j : Nat) : domAt ds (j : Int) = ds.getD j [] := by
  unfold domAt; rw [if_neg (by omega), Int.toNat_natCast]
def allV (n : Nat) : List Int := (List.range n).map Int.ofNat
theorem allV_len (n : Nat) : (allV n).length = n := by simp [allV]
theorem allV_at {n j : Nat} (h : j < n) : (allV n).getD j 0 = (j : Int) := by
  unfold allV
  rw [List.getD_eq_getElem?_getD, List.getElem?_map, List.getElem?_range h]; rfl
/-- at a leaf just one choice is left, and it is a solution -/
theorem leaf_sol {ps : List PL} {D now : Ds} {n : Nat} {o : SOpt} (hg : ∀ p ∈ ps, p.Lin n) (hl : D.length = n) (h : FixOf ps D (some now)) (hc : chooseL now (allV n) o.sel o.ws (allV n).length = none) (x : List Int) :
    Sol ps now x ↔ x = (allV n).map (fun v => (endsL (norm (domOf now v))).1) := by
  have hln : now.length = n := h.1.len.trans hl
  have hxl : ((allV n).map (fun v => (endsL (norm (domOf now v))).1)).length = now.length := by rw [List.length_map, allV_len, hln]
  have hat : ∀ j, j < now.length → ((allV n).map (fun v => (endsL (norm (domOf now v))).1)).getD j 0 = (endsL (norm (now.getD j []))).1 := fun j hj => by
    rw [List.getD_eq_getElem?_getD, List.getElem?_map]
    have : (allV n)[j]? = some (j : Int) := by unfold allV; rw [List.getElem?_map, List.getElem?_range (by omega)]; rfl
    rw [this]
    show (endsL (norm (domOf now (j : Int)))).1 = _
    unfold domOf; rw [Int.toNat_natCast]
  have hset : ∀ j, j < now.length → now.getD j [] = [((endsL (norm (now.getD j []))).1, (endsL (norm (now.getD j []))).1)] := fun j hj => by
    refine single_set (h.1.nor j) (h.1.non j hj) ?_
    have := choose_none hc j (by rw [allV_len]; omega)
    rwa [allV_at (by omega), domAt_nat] at this
  generalize (allV n).map (fun v => (endsL (norm (domOf now v))).1) = y at *
  have hmem : ∀ j, j < now.length → ∀ z, memL (now.getD j []) z = true ↔ z = y.getD j 0 := fun j hj z => by
    rw [hset j hj, one_mem, hat j hj, decide_eq_true_eq]
  have hyb : ∀ v ∈ y, -200 ≤ v ∧ v ≤ 200 := fun v hv => by
    obtain ⟨j, hj, rfl⟩ := List.mem_iff_getElem.1 hv
    have hj' : j < now.length := by omega
    have h1 := (hmem j hj' (y.getD j 0)).2 rfl
    have h2 := memL_bounds (h.1.nor j) h1
    rwa [List.getD_eq_getElem?_getD (l := y), List.getElem?_eq_getElem hj] at h2
  have hns : now = single y := ds_ext (by rw [single_len, hxl]) h.1.nor (single_allN hyb) (fun j hj z => by
    rw [Bool.eq_iff_iff, hmem j hj z, single_at (by omega), one_mem, decide_eq_true_eq])
  have hhold : ∀ p ∈ ps, holdsP p y = true := by
    have h1 := fixOf_again h
    rw [hns] at h1
    obtain ⟨_, h2⟩ := fixOf_single (ps := ps) (y := y) (by rw [hxl, hln]; exact hg) hyb h1
    apply Classical.byContradiction
    intro hno
    have := h2 hno
    cases this
  constructor
  · intro hs
    have h1 := hs.1
    rw [norm_getD h.1.nor] at h1
    apply List.ext_getElem (by rw [h1.1, hxl])
    intro j hj1 hj2
    have hj : j < now.length := by omega
    have h2 := (hmem j hj _).1 (h1.2 j hj)
    rwa [List.getD_eq_getElem?_getD, List.getD_eq_getElem?_getD, List.getElem?_eq_getElem hj1, List.getElem?_eq_getElem hj2] at h2
  · rintro rfl
    refine ⟨?_, hhold⟩
    rw [norm_getD h.1.nor]
    exact ⟨hxl, fun j hj => (hmem j hj _).2 rfl⟩
/-- with all variables labeled the search finds just the solutions, each once, and its nodes do not run out -/
theorem find_all {ps : List PL} {n : Nat} {o : SOpt} (hg : ∀ p ∈ ps, p.Lin n) (ho : o.ord = 0 ∨ o.ord = 1) (hb : o.br = 0 ∨ o.br = 1) : ∀ (fuel : Nat) (st : List Ds), (∀ D ∈ st, D.length = n) → (st.map nodesN).sum ≤ fuel →
    (find ps (allV n) o fuel st).2 = false ∧ (∀ x, x ∈ (find ps (allV n) o fuel st).1 ↔ ∃ D ∈ st, Sol ps D x) ∧ ((st.Pairwise fun A B => ∀ x, ¬ (Sol ps A x ∧ Sol ps B x)) → (find ps (allV n) o fuel st).1.Nodup)
  | 0, [], _, _ => ⟨rfl, fun x => by simp [find], fun _ => List.nodup_nil⟩
  | fuel + 1, [], _, _ => ⟨rfl, fun x => by simp [find], fun _ => List.nodup_nil⟩
  | 0, D :: st, _, hs => by
    have := nodesN_pos D
    rw [List.map_cons, List.sum_cons] at hs
    omega
  | fuel + 1, D :: st, hl, hs => by
    have hD : D.length = n := hl D List.mem_cons_self
    have hgD : ∀ p ∈ ps, p.Lin D.length := by rw [hD]; exact hg
    rw [List.map_cons, List.sum_cons] at hs
    have hpos := nodesN_pos D
    obtain ⟨R, hR⟩ := fixOf_exists (ps := ps) (D := D) (fun p hp => (hgD p hp).good)
    have hsol := fun x => sol_iff hgD hR x
    have hl' : ∀ E ∈ st, E.length = n := fun E hE => hl E (List.mem_cons_of_mem _ hE)
    rw [find, theFix_eq hR]
    cases R with
    | none =>
      obtain ⟨i1, i2, i3⟩ := find_all hg ho hb fuel st hl' (by omega)
      refine ⟨i1, fun x => ?_, fun hp => i3 (List.pairwise_cons.1 hp).2⟩
      rw [i2 x]
      constructor
      · rintro ⟨E, hE, h⟩; exact ⟨E, List.mem_cons_of_mem _ hE, h⟩
      · rintro ⟨E, hE, h⟩
        rcases List.mem_cons.1 hE with rfl | hE
        · obtain ⟨r, e, _⟩ := (hsol x).1 h; cases e
        · exact ⟨E, hE, h⟩
    | some now =>
      have hnl : now.length = n := hR.1.len.trans hD
      have hs2 : ∀ x, Sol ps D x ↔ Sol ps now x := fun x => by
        rw [hsol x]
        exact ⟨fun ⟨r, e, h⟩ => by cases e; exact h, fun h => ⟨now, rfl, h⟩⟩
      dsimp only
      cases hc : chooseL now (allV n) o.sel o.ws (allV n).length with
      | none =>
        obtain ⟨i1, i2, i3⟩ := find_all hg ho hb fuel st hl' (by omega)
        have hleaf := leaf_sol (o := o) hg hD hR hc
        dsimp only
        refine ⟨i1, fun x => ?_, fun hp => ?_⟩
        · rw [List.mem_cons, i2 x]
          constructor
          · rintro (h | ⟨E, hE, h⟩)
            · exact ⟨D, List.mem_cons_self, (hs2 x).2 ((hleaf x).2 h)⟩
            · exact ⟨E, List.mem_cons_of_mem _ hE, h⟩
          · rintro ⟨E, hE, h⟩
            rcases List.mem_cons.1 hE with rfl | hE
            · exact .inl ((hleaf x).1 ((hs2 x).1 h))
            · exact .inr ⟨E, hE, h⟩
        · obtain ⟨p1, p2⟩ := List.pairwise_cons.1 hp
          refine List.nodup_cons.2 ⟨fun hm => ?_, i3 p2⟩
          obtain ⟨E, hE, h⟩ := (i2 _).1 hm
          exact p1 E hE _ ⟨(hs2 _).2 ((hleaf _).2 rfl), h⟩
      | some k =>
        have hk : k < n := by have := chooseL_lt _ _ _ _ _ _ hc; rwa [allV_len] at this
        have hsz := choose_some hc
        rw [allV_at hk, domAt_nat] at hsz
        have hkv : ((allV n).getD k 0).toNat = k := by rw [allV_at hk, Int.toNat_natCast]
        dsimp only
        rw [hkv]
        have hparts := fun x => part_sol (ps := ps) (o := o) (by omega : k < now.length) hsz ho hb x
        have hnp := nodes_parts hR.1.nor hR.1.non (by omega : k < now.length) hsz ho hb (o := o)
        have hle : nodesN now ≤ nodesN D := nodesN_le (prodN_le hR.1.len (fun j x hx => by
          have := hR.1.sub j x hx
          rw [getD_map_norm, memL_norm, Bool.and_eq_true] at this
          exact this.2))
        obtain ⟨i1, i2, i3⟩ := find_all hg ho hb fuel ((partAt now k o).1 :: (partAt now k o).2 :: st) (fun E hE => by
          rcases List.mem_cons.1 hE with rfl | hE
          · show (now.set _ _).length = n; rw [List.length_set]; exact hnl
          · rcases List.mem_cons.1 hE with rfl | hE
            · show (now.set _ _).length = n; rw [List.length_set]; exact hnl
            · exact hl' E hE) (by rw [List.map_cons, List.map_cons, List.sum_cons, List.sum_cons]; omega)
        refine ⟨i1, fun x => ?_, fun hp => i3 ?_⟩
        · rw [i2 x]
          constructor
          · rintro ⟨E, hE, h⟩
            rcases List.mem_cons.1 hE with rfl | hE
            · exact ⟨D, List.mem_cons_self, (hs2 x).2 ((hparts x).1.2 (.inl h))⟩
            · rcases List.mem_cons.1 hE with rfl | hE
              · exact ⟨D, List.mem_cons_self, (hs2 x).2 ((hparts x).1.2 (.inr h))⟩
              · exact ⟨E, List.mem_cons_of_mem _ hE, h⟩
          · rintro ⟨E, hE, h⟩
            rcases List.mem_cons.1 hE with rfl | hE
            · rcases (hparts x).1.1 ((hs2 x).1 h) with h | h
              · exact ⟨_, List.mem_cons_self, h⟩
              · exact ⟨_, List.mem_cons_of_mem _ List.mem_cons_self, h⟩
            · exact ⟨E, List.mem_cons_of_mem _ (List.mem_cons_of_mem _ hE), h⟩
        · obtain ⟨p1, p2⟩ := List.pairwise_cons.1 hp
          have hin : ∀ x, (Sol ps (partAt now k o).1 x → Sol ps D x) ∧ (Sol ps (partAt now k o).2 x → Sol ps D x) := fun x => ⟨fun h => (hs2 x).2 ((hparts x).1.2 (.inl h)), fun h => (hs2 x).2 ((hparts x).1.2 (.inr h))⟩
          refine List.pairwise_cons.2 ⟨fun E hE x => ?_, List.pairwise_cons.2 ⟨fun E hE x => ?_, p2⟩⟩
          · rcases List.mem_cons.1 hE with rfl | hE
            · exact (hparts x).2
            · exact fun h => p1 E hE x ⟨(hin x).1 h.1, h.2⟩
          · exact fun h => p1 E hE x ⟨(hin x).2 h.1, h.2⟩
theorem nodup_len_le : ∀ (l m : List (List Int)), l.Nodup → (∀ x ∈ l, x ∈ m) → l.length ≤ m.length
  | [], _, _, _ => Nat.zero_le _
  | a :: l, m, hn, h => by
    obtain ⟨h1, h2⟩ := List.nodup_cons.1 hn
    have ha := h a List.mem_cons_self
    have := nodup_len_le l (m.erase a) h2 (fun x hx => by
      have hne : x ≠ a := fun e => h1 (e ▸ hx)
      exact (List.mem_erase_of_ne hne).2 (h x (List.mem_cons_of_mem _ hx)))
    rw [List.length_erase_of_mem ha] at this
    have hp := List.length_pos_of_mem ha
    rw [List.length_cons]; omega
/-- whatever the options, as many are found -/
theorem find_len {ps : List PL} {n : Nat} {o p : SOpt} (hg : ∀ q ∈ ps, q.Lin n) (ho : o.ord = 0 ∨ o.ord = 1) (hb : o.br = 0 ∨ o.br = 1) (po : p.ord = 0 ∨ p.ord = 1) (pb : p.br = 0 ∨ p.br = 1) {D : Ds} (hD : D.length = n) {f g : Nat} (hf : nodesN D ≤ f) (hg' : nodesN D ≤ g) :
    (find ps (allV n) o f [D]).1.length = (find ps (allV n) p g [D]).1.length := by
  obtain ⟨_, a2, a3⟩ := find_all hg ho hb f [D] (fun E hE => by rw [List.mem_singleton.1 hE]; exact hD) (by simpa using hf)
  obtain ⟨_, b2, b3⟩ := find_all hg po pb g [D] (fun E hE => by rw [List.mem_singleton.1 hE]; exact hD) (by simpa using hg')
  have hp : List.Pairwise (fun A B => ∀ x, ¬ (Sol ps A x ∧ Sol ps B x)) [D] := List.pairwise_singleton _ _
  exact Nat.le_antisymm (nodup_len_le _ _ (a3 hp) (fun x hx => (b2 x).2 ((a2 x).1 hx))) (nodup_len_le _ _ (b3 hp) (fun x hx => (a2 x).2 ((b2 x).1 hx)))
/-- Solve's loop: it stops at the m-th answer -/
noncomputable def findM (ps : List PL) (vars : List Int) (o : SOpt) : Nat → Nat → List Ds → List (List Int) × Bool
  | 0, _, _ => ([], false)
  | _ + 1, _, [] => ([], false)
  | _ + 1, 0, _ :: _ => ([], true)
  | m + 1, n + 1, D :: st => match theFix ps D with
    | none => findM ps vars o (m + 1) n st
    | some now => match chooseL now vars o.sel o.ws vars.length with
      | none => (vars.map (fun v => (endsL (norm (domOf now v))).1) :: (findM ps vars o m n st).1, (findM ps vars o m n st).2)
      | some k => findM ps vars o (m + 1) n ((partAt now (vars.getD k 0).toNat o).1 :: (partAt now (vars.getD k 0).toNat o).2 :: st)
theorem findM_eq (ps : List PL) (vars : List Int) (o : SOpt) : ∀ (n m : Nat) (st : List Ds), (findM ps vars o m n st).1 = (find ps vars o n st).1.take m ∧ (m ≤ (find ps vars o n st).1.length → (findM ps vars o m n st).2 = false) ∧ ((find ps vars o n st).1.length < m → (findM ps vars o m n st).2 = (find ps vars o n st).2)
  | n, 0, st => by cases n <;> cases st <;> simp [findM]
  | n, m + 1, [] => by cases n <;> simp [findM, find]
  | 0, m + 1, D :: st => by simp [findM, find]
  | n + 1, m + 1, D :: st => by
    rw [findM, find]
    cases theFix ps D with
    | none => exact findM_eq ps vars o n (m + 1) st
    | some now =>
      dsimp only
      cases chooseL now vars o.sel o.ws vars.length with
      | none =>
        dsimp only
        obtain ⟨a, b, c⟩ := findM_eq ps vars o n m st
        refine ⟨by rw [a, List.take_succ_cons], fun h => b (by simpa using h), fun h => c (by simpa using h)⟩
      | some k => exact findM_eq ps vars o n (m + 1) _
end Go.Proofs.YtaekdgikgbdnnaaGreat
namespace Go.Proofs.YtaekdgikgbdnnaaGreat

/-- the search up to the m-th answer: what it finds, how many nodes are left, whether they ran out -/
noncomputable def findR (ps : List PL) (vars : List Int) (o : SOpt) : Nat → Nat → List Ds → List (List Int) × Nat × Bool
  | 0, n, _ => ([], n, false)
  | _ + 1, n, [] => ([], n, false)
  | _ + 1, 0, _ :: _ => ([], 0, true)
  | m + 1, n + 1, D :: st => match theFix ps D with
    | none => findR ps vars o (m + 1) n st
    | some now => match chooseL now vars o.sel o.ws vars.length with
      | none => (vars.map (fun v => (endsL (norm (domOf now v))).1) :: (findR ps vars o m n st).1, (findR ps vars o m n st).2)
      | some k => findR ps vars o (m + 1) n ((partAt now (vars.getD k 0).toNat o).1 :: (partAt now (vars.getD k 0).toNat o).2 :: st)
theorem findR_M (ps : List PL) (vars : List Int) (o : SOpt) : ∀ (n m : Nat) (st : List Ds), (findR ps vars o m n st).1 = (findM ps vars o m n st).1 ∧ (findR ps vars o m n st).2.2 = (findM ps vars o m n st).2
  | n, 0, st => by cases n <;> cases st <;> exact ⟨rfl, rfl⟩
  | n, m + 1, [] => by cases n <;> exact ⟨rfl, rfl⟩
  | 0, m + 1, D :: st => ⟨rfl, rfl⟩
  | n + 1, m + 1, D :: st => by
    rw [findM, findR]
    cases theFix ps D with
    | none => exact findR_M ps vars o n (m + 1) st
    | some now =>
      dsimp only
      cases chooseL now vars o.sel o.ws vars.length with
      | none =>
        obtain ⟨a, b⟩ := findR_M ps vars o n m st
        dsimp only
        exact ⟨by rw [a], b⟩
      | some k => exact findR_M ps vars o n (m + 1) _
/-- where the search stands: 'pre' has come, k nodes may yet come, st waits -/
def Stands (ps : List PL) (vars : List Int) (o : SOpt) (n0 : Nat) (D0 : Ds) (pre : List (List Int)) (k : Nat) (st : List Ds) : Prop :=
  ∀ m, findR ps vars o (pre.length + (m + 1)) n0 [D0] = (pre ++ (findR ps vars o (m + 1) k st).1, (findR ps vars o (m + 1) k st).2)
theorem Stands.start (ps : List PL) (vars : List Int) (o : SOpt) (n0 : Nat) (D0 : Ds) : Stands ps vars o n0 D0 [] n0 [D0] := fun m => by
  rw [List.length_nil, Nat.zero_add, List.nil_append]
variable {ps : List PL} {vars : List Int} {o : SOpt} {n0 k : Nat} {D0 D now : Ds} {pre : List (List Int)} {st : List Ds}
theorem Stands.gone (h : Stands ps vars o n0 D0 pre (k + 1) (D :: st)) (hf : theFix ps D = none) : Stands ps vars o n0 D0 pre k st := fun m => by
  rw [h m]; conv => lhs; rw [findR, hf]
theorem Stands.part {i : Nat} (h : Stands ps vars o n0 D0 pre (k + 1) (D :: st)) (hf : theFix ps D = some now) (hc : chooseL now vars o.sel o.ws vars.length = some i) :
    Stands ps vars o n0 D0 pre k ((partAt now (vars.getD i 0).toNat o).1 :: (partAt now (vars.getD i 0).toNat o).2 :: st) := fun m => by
  rw [h m]; conv => lhs; rw [findR, hf]; dsimp only; rw [hc]
theorem Stands.leaf (h : Stands ps vars o n0 D0 pre (k + 1) (D :: st)) (hf : theFix ps D = some now) (hc : chooseL now vars o.sel o.ws vars.length = none) :
    findR ps vars o (pre ++ [vars.map (fun v => (endsL (norm (domOf now v))).1)]).length n0 [D0] = (pre ++ [vars.map (fun v => (endsL (norm (domOf now v))).1)], k, false) ∧
    Stands ps vars o n0 D0 (pre ++ [vars.map (fun v => (endsL (norm (domOf now v))).1)]) k st := by
  have e : ∀ m, findR ps vars o (m + 1) (k + 1) (D :: st) = (vars.map (fun v => (endsL (norm (domOf now v))).1) :: (findR ps vars o m k st).1, (findR ps vars o m k st).2) := fun m => by
    conv => lhs; rw [findR, hf]; dsimp only; rw [hc]
  constructor
  · have := h 0
    rw [e 0] at this
    rw [List.length_append, List.length_singleton]
    cases k <;> exact this
  · intro m
    have := h (m + 1)
    rw [e (m + 1)] at this
    rw [List.length_append, List.length_singleton, show pre.length + 1 + (m + 1) = pre.length + (m + 1 + 1) by omega, this, List.append_assoc]
    rfl
theorem Stands.done (h : Stands ps vars o n0 D0 pre k []) (m : Nat) : findR ps vars o (pre.length + (m + 1)) n0 [D0] = (pre, k, false) := by
  rw [h m]; cases k <;> simp [findR]
theorem Stands.over (h : Stands ps vars o n0 D0 pre 0 (D :: st)) (m : Nat) : findR ps vars o (pre.length + (m + 1)) n0 [D0] = (pre, 0, true) := by
  rw [h m]; simp [findR]
end Go.Proofs.YtaekdgikgbdnnaaGreat
