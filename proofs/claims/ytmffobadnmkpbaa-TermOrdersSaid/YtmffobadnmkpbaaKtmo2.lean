/-
  HOW GREAT, HOW DEEP A TERM IS, WHICH VARIABLES IT HAS: in plain Lean. Over any program.
  VARIANTS: in plain Lean. Terms whose variables are renamed one to one.
  VARIANTS: shapes, renamings and numbered terms are one. In plain Lean.
  term.Size, term.Depth, and the document's, walked.
  LISTS OF INTEGERS in memory; are two the same; is one in a list; walked.
  term.Vars: its closure, walked.
-/
import Derived.Test.YtmffobadnmkpbaaKpars1
import Derived.Test.YtmffobadnmkpbaaKtmo1
import Derived.Deep.LoopGhost
import Derived.Handy
import Derived.Test.YtmffobadnmkpbaaKlib1
import Derived.BigQuiet
import Derived.Test.YtmffobadnmkpbaaKpars2
namespace Go.Proofs.Ytmffobadnmkpbaa
open Go.RowKit

mutual
def Tm.depth : Tm → Nat
  | .nil => 1
  | .var _ => 1
  | .int _ => 1
  | .atom _ => 1
  | .cmp _ l => Tm.depths l + 1
def Tm.depths : List Tm → Nat
  | [] => 0
  | t :: l => max t.depth (Tm.depths l)
end
theorem Tm.depths_append (a b : List Tm) : Tm.depths (a ++ b) = max (Tm.depths a) (Tm.depths b) := by
  induction a with
  | nil => simp [Tm.depths]
  | cons t l ih => simp only [List.cons_append, Tm.depths, ih]; omega
theorem Tm.depth_eq (t : Tm) : t.depth = Tm.depths t.args + 1 := by cases t <;> simp [Tm.depth, Tm.depths, Tm.args]
theorem Tm.size_eq (t : Tm) : t.size = 1 + Tm.sizes t.args := by cases t <;> simp [Tm.size, Tm.sizes, Tm.args]
theorem Tm.depth_le (t : Tm) : t.depth ≤ t.size := by
  induction t using Tm.ind with
  | h4 s l ih =>
    simp only [Tm.depth, Tm.size]
    have : Tm.depths l ≤ Tm.sizes l := by
      clear s
      induction l with
      | nil => simp [Tm.depths]
      | cons a l ih2 =>
        have h1 := ih a (by simp)
        have h2 := ih2 fun t ht => ih t (by simp [ht])
        simp only [Tm.depths, Tm.sizes]; omega
    omega
  | _ => simp [Tm.depth, Tm.size]
theorem Tm.sizes_take (l : List Tm) (k : Nat) (h : k < l.length) : Tm.sizes (l.take (k + 1)) = Tm.sizes (l.take k) + l[k].size := by
  rw [List.take_succ_eq_append_getElem h, Tm.sizes_append]; simp [Tm.sizes]
theorem Tm.depths_take (l : List Tm) (k : Nat) (h : k < l.length) : Tm.depths (l.take (k + 1)) = max (Tm.depths (l.take k)) l[k].depth := by
  rw [List.take_succ_eq_append_getElem h, Tm.depths_append]; simp [Tm.depths]
theorem Tm.sizes_take_le (l : List Tm) (k : Nat) : Tm.sizes (l.take k) ≤ Tm.sizes l := by
  have : Tm.sizes l = Tm.sizes (l.take k) + Tm.sizes (l.drop k) := by rw [← Tm.sizes_append, List.take_append_drop]
  omega

mutual
/-- the variables, in their order, again and again -/
def Tm.vs : Tm → List Int
  | .nil => []
  | .var n => [(n : Int)]
  | .int _ => []
  | .atom _ => []
  | .cmp _ l => Tm.vss l
def Tm.vss : List Tm → List Int
  | [] => []
  | t :: l => t.vs ++ Tm.vss l
end
theorem Tm.vss_append (a b : List Tm) : Tm.vss (a ++ b) = Tm.vss a ++ Tm.vss b := by
  induction a with
  | nil => simp [Tm.vss]
  | cons t l ih => simp [Tm.vss, ih]
theorem Tm.vss_take (l : List Tm) (k : Nat) (h : k < l.length) : Tm.vss (l.take (k + 1)) = Tm.vss (l.take k) ++ l[k].vs := by
  rw [List.take_succ_eq_append_getElem h, Tm.vss_append]; simp [Tm.vss]
theorem Tm.vs_len (t : Tm) : t.vs.length ≤ t.size := by
  induction t using Tm.ind with
  | h4 s l ih =>
    simp only [Tm.vs, Tm.size]
    have : (Tm.vss l).length ≤ Tm.sizes l := by
      clear s
      induction l with
      | nil => simp [Tm.vss]
      | cons a l ih2 =>
        have h1 := ih a (by simp)
        have h2 := ih2 fun t ht => ih t (by simp [ht])
        simp only [Tm.vss, Tm.sizes, List.length_append]; omega
    omega
  | _ => simp [Tm.vs, Tm.size]
theorem Tm.vss_len (l : List Tm) : (Tm.vss l).length ≤ Tm.sizes l := by
  induction l with
  | nil => simp [Tm.vss]
  | cons a l ih => have := a.vs_len; simp only [Tm.vss, Tm.sizes, List.length_append]; omega
/-- put at the end what is not there -/
def addV (o : List Int) (x : Int) : List Int := if x ∈ o then o else o ++ [x]
def addVs (o l : List Int) : List Int := l.foldl addV o
theorem addVs_nil (o : List Int) : addVs o [] = o := rfl
theorem addVs_cons (o : List Int) (x : Int) (l : List Int) : addVs o (x :: l) = addVs (addV o x) l := rfl
theorem addVs_append (o a b : List Int) : addVs o (a ++ b) = addVs (addVs o a) b := by simp [addVs, List.foldl_append]
theorem mem_addV {o : List Int} {x y : Int} : y ∈ addV o x ↔ y ∈ o ∨ y = x := by
  unfold addV; split
  · constructor
    · exact .inl
    · rintro (h | rfl) <;> assumption
  · simp
theorem mem_addVs {o l : List Int} {y : Int} : y ∈ addVs o l ↔ y ∈ o ∨ y ∈ l := by
  induction l generalizing o with
  | nil => simp [addVs_nil]
  | cons x l ih => rw [addVs_cons, ih, mem_addV]; simp [or_assoc]
theorem addV_mem {o : List Int} {x : Int} (h : x ∈ o) : addV o x = o := by simp [addV, h]
theorem addV_new {o : List Int} {x : Int} (h : x ∉ o) : addV o x = o ++ [x] := by simp [addV, h]
/-- adding what is left of a list once its doubles are gone adds the list -/
theorem addVs_dedup (o l : List Int) : addVs o (addVs [] l) = addVs o l := by
  have key : ∀ l p : List Int, (∀ x ∈ p, x ∈ o ∨ x ∈ p) → addVs o (addVs p l) = addVs (addVs o p) l := by
    intro l
    induction l with
    | nil => intro p _; rfl
    | cons x l ih =>
      intro p _
      rw [addVs_cons, addVs_cons, ih _ (fun y hy => .inr hy)]
      congr 1
      by_cases h : x ∈ p
      · rw [addV_mem h, addV_mem (mem_addVs.2 (.inr h))]
      · rw [addV_new h, addVs_append]; rfl
  have := key l [] (by simp)
  simpa [addVs_nil] using this
theorem addVs_len (o l : List Int) : (addVs o l).length ≤ o.length + l.length := by
  induction l generalizing o with
  | nil => simp [addVs_nil]
  | cons x l ih =>
    have := ih (addV o x)
    have h : (addV o x).length ≤ o.length + 1 := by unfold addV; split <;> simp
    rw [addVs_cons]; simp only [List.length_cons]; omega
def Tm.vars (t : Tm) : List Int := addVs [] t.vs
theorem Tm.vars_len (t : Tm) : t.vars.length ≤ t.size := by
  have := addVs_len [] t.vs; have := t.vs_len; simp only [Tm.vars, List.length_nil] at *; omega
theorem Tm.ok_var {t : Tm} (h : t.ok) (hk : t.kind = 1) : ∃ n, t = .var n ∧ n < 5000 := by
  cases h <;> simp [Tm.kind] at hk
  exact ⟨_, rfl, ‹_›⟩
theorem Tm.ok_args {t : Tm} (h : t.ok) : ∀ u ∈ t.args, u.ok := by
  cases h <;> simp [Tm.args]
  assumption
theorem Tm.args_kind {t : Tm} (h : t.kind ≠ 4) : t.args = [] := by cases t <;> simp [Tm.kind] at h <;> rfl
theorem Tm.args_size {t u : Tm} (h : u ∈ t.args) : u.size < t.size := by
  have := Tm.sizes_mem h; rw [t.size_eq]; omega
theorem Tm.vs_bound {t : Tm} (h : t.ok) : ∀ x ∈ t.vs, 0 ≤ x ∧ x < 5000 := by
  induction t using Tm.ind with
  | h1 n => cases h; intro x hx; simp [Tm.vs] at hx; omega
  | h4 s l ih =>
    have ha := Tm.ok_args h
    simp only [Tm.args] at ha
    intro x hx
    simp only [Tm.vs] at hx
    clear h s
    induction l with
    | nil => simp [Tm.vss] at hx
    | cons a l ih2 =>
      simp only [Tm.vss, List.mem_append] at hx
      rcases hx with hx | hx
      · exact ih a (by simp) (ha a (by simp)) x hx
      · exact ih2 (fun t ht => ih t (by simp [ht])) (fun t ht => ha t (by simp [ht])) hx
  | _ => simp [Tm.vs]
end Go.Proofs.Ytmffobadnmkpbaa
namespace Go.Proofs.Ytmffobadnmkpbaa
open Go.RowKit

/-- the first place of a number in a list; -1: none -/
def placeI (l : List Int) (n : Int) : Int := match l with
  | [] => -1
  | x :: r => if x = n then 0 else let k := placeI r n; if k < 0 then -1 else k + 1
theorem placeI_ge (l : List Int) (n : Int) : -1 ≤ placeI l n := by
  induction l with
  | nil => simp [placeI]
  | cons x r ih => simp only [placeI]; split; (· omega); split <;> omega
theorem placeI_mem {l : List Int} {n : Int} : 0 ≤ placeI l n ↔ n ∈ l := by
  induction l with
  | nil => simp [placeI]
  | cons x r ih =>
    simp only [placeI, List.mem_cons]
    by_cases h : x = n
    · simp [h]
    · have := placeI_ge r n
      simp only [h, if_false]
      by_cases hk : placeI r n < 0
      · have : ¬ n ∈ r := fun hm => by have := ih.2 hm; omega
        simp [hk, this, Ne.symm h]
      · have : n ∈ r := ih.1 (by omega)
        simp [hk, this]; omega
theorem placeI_lt {l : List Int} {n : Int} : placeI l n < l.length := by
  induction l with
  | nil => simp [placeI]
  | cons x r ih => simp only [placeI, List.length_cons]; split; (· omega); split <;> omega
theorem placeI_app {l : List Int} {n : Int} (h : n ∈ l) (m : List Int) : placeI (l ++ m) n = placeI l n := by
  induction l with
  | nil => cases h
  | cons x r ih =>
    simp only [List.cons_append, placeI]
    by_cases hx : x = n
    · simp [hx]
    · have hr : n ∈ r := by rcases List.mem_cons.1 h with e | e; (· exact absurd e.symm hx); (· exact e)
      simp only [hx, if_false, ih hr]
theorem placeI_new {l : List Int} {n : Int} (h : n ∉ l) (m : List Int) : placeI (l ++ n :: m) n = l.length := by
  induction l with
  | nil => simp [placeI]
  | cons x r ih =>
    have hx : ¬ x = n := fun e => h (by simp [e])
    have hr : n ∉ r := fun e => h (by simp [e])
    simp only [List.cons_append, placeI, hx, if_false, ih hr, List.length_cons]
    have : ¬ ((r.length : Int) < 0) := by omega
    simp [this]
theorem placeI_inj {l : List Int} {a b : Int} (ha : a ∈ l) (h : placeI l a = placeI l b) : a = b := by
  induction l with
  | nil => cases ha
  | cons x r ih =>
    simp only [placeI] at h
    by_cases h1 : x = a
    · by_cases h2 : x = b
      · exact h1.symm.trans h2
      · exfalso
        have := placeI_ge r b
        rw [if_pos h1, if_neg h2] at h
        split at h <;> omega
    · have har : a ∈ r := by rcases List.mem_cons.1 ha with e | e; (· exact absurd e.symm h1); (· exact e)
      have hpa := placeI_mem.2 har
      simp only [h1, if_false] at h
      by_cases h2 : x = b
      · simp only [h2, if_true] at h
        split at h <;> omega
      · simp only [h2, if_false] at h
        have := placeI_ge r b
        refine ih har ?_
        split at h <;> split at h <;> omega
theorem addVs_prefix (U A : List Int) : ∃ X, addVs U A = U ++ X := by
  induction A generalizing U with
  | nil => exact ⟨[], by simp [addVs_nil]⟩
  | cons a A ih =>
    rw [addVs_cons]
    obtain ⟨X, hX⟩ := ih (addV U a)
    by_cases ha : a ∈ U
    · have e : addV U a = U := addV_mem ha
      rw [e] at hX ⊢; exact ⟨X, hX⟩
    · have e : addV U a = U ++ [a] := addV_new ha
      rw [e] at hX ⊢; exact ⟨a :: X, by rw [hX]; simp⟩
/-- a renaming's pairs, and one more -/
def pairR (r : List (Int × Int)) (a b : Int) : Option (List (Int × Int)) :=
  if a ∉ r.map Prod.fst ∧ b ∉ r.map Prod.snd then some (r ++ [(a, b)]) else if (a, b) ∈ r then some r else none
def pairsR (r : List (Int × Int)) : List (Int × Int) → Option (List (Int × Int))
  | [] => some r
  | p :: l => (pairR r p.1 p.2).bind fun r' => pairsR r' l
theorem pairsR_append (r : List (Int × Int)) (l m : List (Int × Int)) : pairsR r (l ++ m) = (pairsR r l).bind fun r' => pairsR r' m := by
  induction l generalizing r with
  | nil => rfl
  | cons p l ih =>
    simp only [List.cons_append, pairsR]
    cases pairR r p.1 p.2 with
    | none => rfl
    | some r' => simp [ih]
/-- pairs whose firsts, and whose seconds, are all unlike -/
def OneR (r : List (Int × Int)) : Prop := (r.map Prod.fst).Nodup ∧ (r.map Prod.snd).Nodup
theorem OneR.pair {r r' : List (Int × Int)} (h : OneR r) {a b : Int} (hp : pairR r a b = some r') : OneR r' := by
  unfold pairR at hp
  split at hp
  · rename_i hn
    simp only [Option.some.injEq] at hp; subst hp
    constructor
    · rw [List.map_append, List.nodup_append]; exact ⟨h.1, by simp, fun x hx y hy => by simp at hy; subst hy; exact fun e => hn.1 (e ▸ hx)⟩
    · rw [List.map_append, List.nodup_append]; exact ⟨h.2, by simp, fun x hx y hy => by simp at hy; subst hy; exact fun e => hn.2 (e ▸ hx)⟩
  · split at hp
    · simp only [Option.some.injEq] at hp; subst hp; exact h
    · cases hp
theorem zip_mem {U V : List Int} (hl : U.length = V.length) (hU : U.Nodup) (hV : V.Nodup) {a b : Int} (ha : a ∈ U) : (a, b) ∈ U.zip V ↔ placeI U a = placeI V b := by
  induction U generalizing V with
  | nil => cases ha
  | cons u U ih =>
    cases V with
    | nil => simp at hl
    | cons v V =>
      simp only [List.length_cons, Nat.add_right_cancel_iff] at hl
      have hU' := List.nodup_cons.1 hU
      have hV' := List.nodup_cons.1 hV
      simp only [List.zip_cons_cons, List.mem_cons, Prod.mk.injEq, placeI]
      by_cases h1 : u = a
      · subst h1
        by_cases h2 : v = b
        · subst h2; simp
        · have hnz : ¬ (u, b) ∈ U.zip V := fun hm => hU'.1 (List.of_mem_zip hm).1
          have := placeI_ge V b
          simp only [h2, hnz, if_true, if_false, Ne.symm h2, and_false, or_self, false_iff]
          split <;> omega
      · have haU : a ∈ U := by rcases List.mem_cons.1 ha with e | e; (· exact absurd e.symm h1); (· exact e)
        have hpa := placeI_mem.2 haU
        have hge := placeI_ge V b
        rw [or_iff_right (fun h => h1 h.1.symm), ih hl hU'.2 hV'.2 haU]
        by_cases h2 : v = b
        · subst h2
          have : placeI V v < 0 := by
            have : ¬ 0 ≤ placeI V v := fun h => hV'.1 (placeI_mem.1 h)
            omega
          simp only [h1, if_false, if_true]
          split <;> constructor <;> intro h <;> omega
        · simp only [h1, h2, if_false]
          split <;> split <;> constructor <;> intro h <;> omega
theorem pairs_ok (A B : List Int) (hAB : A.length = B.length) : ∀ U V : List Int, U.length = V.length → U.Nodup → V.Nodup →
    ((pairsR (U.zip V) (A.zip B)).isSome = true ↔ A.map (placeI (addVs U A)) = B.map (placeI (addVs V B))) := by
  induction A generalizing B with
  | nil => cases B with
    | nil => intro U V _ _ _; simp [pairsR]
    | cons b B => simp at hAB
  | cons a A ih =>
    cases B with
    | nil => simp at hAB
    | cons b B =>
      simp only [List.length_cons, Nat.add_right_cancel_iff] at hAB
      intro U V hl hU hV
      have e1 : (U.zip V).map Prod.fst = U := List.map_fst_zip (Nat.le_of_eq hl)
      have e2 : (U.zip V).map Prod.snd = V := List.map_snd_zip (Nat.le_of_eq hl.symm)
      simp only [List.zip_cons_cons, pairsR, List.map_cons, List.cons.injEq, addVs_cons]
      obtain ⟨X, hX⟩ := addVs_prefix (addV U a) A
      obtain ⟨Y, hY⟩ := addVs_prefix (addV V b) B
      by_cases ha : a ∈ U <;> by_cases hb : b ∈ V
      · have hA : addV U a = U := addV_mem ha
        have hB : addV V b = V := addV_mem hb
        rw [hA] at hX ⊢; rw [hB] at hY ⊢
        have hpl : placeI (addVs U A) a = placeI U a := by rw [hX]; exact placeI_app ha _
        have hpr : placeI (addVs V B) b = placeI V b := by rw [hY]; exact placeI_app hb _
        rw [hpl, hpr]
        by_cases hm : (a, b) ∈ U.zip V
        · have hp : pairR (U.zip V) a b = some (U.zip V) := by simp [pairR, e1, e2, ha, hm]
          rw [hp]
          simp only [Option.bind_some, ih B hAB U V hl hU hV, (zip_mem hl hU hV ha).1 hm, true_and]
        · have hp : pairR (U.zip V) a b = none := by simp [pairR, e1, e2, ha, hm]
          rw [hp]
          have : ¬ placeI U a = placeI V b := fun h => hm ((zip_mem hl hU hV ha).2 h)
          simp [this]
      · have hA : addV U a = U := addV_mem ha
        have hB : addV V b = V ++ [b] := addV_new hb
        rw [hA] at hX ⊢; rw [hB] at hY ⊢
        have hpl : placeI (addVs U A) a = placeI U a := by rw [hX]; exact placeI_app ha _
        have hpr : placeI (addVs (V ++ [b]) B) b = V.length := by rw [hY]; simpa using placeI_new hb Y
        have hm : ¬ (a, b) ∈ U.zip V := fun h => hb (List.of_mem_zip h).2
        have hp : pairR (U.zip V) a b = none := by simp [pairR, e1, e2, ha, hm]
        have hlt := placeI_lt (l := U) (n := a)
        rw [hp, hpl, hpr]
        have : ¬ placeI U a = (V.length : Int) := by omega
        simp [this]
      · have hA : addV U a = U ++ [a] := addV_new ha
        have hB : addV V b = V := addV_mem hb
        rw [hA] at hX ⊢; rw [hB] at hY ⊢
        have hpl : placeI (addVs (U ++ [a]) A) a = U.length := by rw [hX]; simpa using placeI_new ha X
        have hpr : placeI (addVs V B) b = placeI V b := by rw [hY]; exact placeI_app hb _
        have hm : ¬ (a, b) ∈ U.zip V := fun h => ha (List.of_mem_zip h).1
        have hp : pairR (U.zip V) a b = none := by simp [pairR, e1, e2, hb, hm]
        have hlt := placeI_lt (l := V) (n := b)
        rw [hp, hpl, hpr]
        have : ¬ (U.length : Int) = placeI V b := by omega
        simp [this]
      · have hA : addV U a = U ++ [a] := addV_new ha
        have hB : addV V b = V ++ [b] := addV_new hb
        rw [hA] at hX ⊢; rw [hB] at hY ⊢
        have hpl : placeI (addVs (U ++ [a]) A) a = U.length := by rw [hX]; simpa using placeI_new ha X
        have hpr : placeI (addVs (V ++ [b]) B) b = V.length := by rw [hY]; simpa using placeI_new hb Y
        have hz : (U ++ [a]).zip (V ++ [b]) = U.zip V ++ [(a, b)] := by rw [List.zip_append hl]; rfl
        have hp : pairR (U.zip V) a b = some ((U ++ [a]).zip (V ++ [b])) := by simp [pairR, e1, e2, ha, hb, hz]
        rw [hp, hpl, hpr]
        have hU2 : (U ++ [a]).Nodup := by rw [List.nodup_append]; exact ⟨hU, by simp, fun x hx y hy => by simp at hy; subst hy; exact fun e => ha (e ▸ hx)⟩
        have hV2 : (V ++ [b]).Nodup := by rw [List.nodup_append]; exact ⟨hV, by simp, fun x hx y hy => by simp at hy; subst hy; exact fun e => hb (e ▸ hx)⟩
        simp only [Option.bind_some, ih B hAB (U ++ [a]) (V ++ [b]) (by simp [hl]) hU2 hV2, hl, true_and]
end Go.Proofs.Ytmffobadnmkpbaa
namespace Go.Proofs.Ytmffobadnmkpbaa
open Go.RowKit

mutual
/-- the same but for their variables -/
def skT : Tm → Tm → Bool
  | .nil, .nil => true
  | .var _, .var _ => true
  | .int z, .int y => z == y
  | .atom s, .atom u => s.toList == u.toList
  | .cmp s l, .cmp u m => s.toList == u.toList && skL l m
  | _, _ => false
def skL : List Tm → List Tm → Bool
  | [], [] => true
  | t :: l, u :: m => skT t u && skL l m
  | _, _ => false
end
theorem skL_len : ∀ {l m : List Tm}, skL l m = true → l.length = m.length
  | [], [], _ => rfl
  | t :: l, u :: m, h => by
    simp only [skL, Bool.and_eq_true] at h
    simp [skL_len h.2]
  | [], _ :: _, h => by simp [skL] at h
  | _ :: _, [], h => by simp [skL] at h
theorem sk_vs (a : Tm) : ∀ b, skT a b = true → a.vs.length = b.vs.length := by
  induction a using Tm.ind with
  | h4 s l ih =>
    intro b h
    cases b with
    | cmp u m =>
      simp only [skT, Bool.and_eq_true] at h
      replace h := h.2
      simp only [Tm.vs]
      clear s u
      induction l generalizing m with
      | nil => cases m with
        | nil => rfl
        | cons u m => simp [skL] at h
      | cons t l ih2 =>
        cases m with
        | nil => simp [skL] at h
        | cons u m =>
          simp only [skL, Bool.and_eq_true] at h
          simp only [Tm.vss, List.length_append]
          rw [ih t (by simp) u h.1, ih2 (fun t ht => ih t (by simp [ht])) m h.2]
    | _ => simp [skT] at h
  | _ => intro b h; cases b <;> simp [skT] at h <;> rfl
theorem skL_vss {l m : List Tm} (h : skL l m = true) : (Tm.vss l).length = (Tm.vss m).length := by
  have := sk_vs (.cmp ⟨#[]⟩ l) (.cmp ⟨#[]⟩ m) (by simp [skT, h])
  simpa [Tm.vs] using this
theorem skT_eq (a b : Tm) : skT a b = (decide (a.kind = b.kind) && (decide (a.args.length = b.args.length) && (if a.kind = 1 then true else if a.kind = 2 then a.num == b.num else (a.name.toList == b.name.toList) && skL a.args b.args))) := by
  cases a <;> cases b <;> simp [skT, Tm.kind, Tm.args, Tm.num, Tm.name, skL]
  rename_i s l u m
  intro _ h
  first
    | exact decide_eq_true (skL_len h)
    | exact skL_len h
/-- alike under a renaming: the renaming then -/
def alikeT (r : List (Int × Int)) (a b : Tm) : Option (List (Int × Int)) := if skT a b then pairsR r (a.vs.zip b.vs) else none
def alikeL (r : List (Int × Int)) (l m : List Tm) : Option (List (Int × Int)) := if skL l m then pairsR r ((Tm.vss l).zip (Tm.vss m)) else none
theorem alikeL_cons (r : List (Int × Int)) (t u : Tm) (l m : List Tm) : alikeL r (t :: l) (u :: m) = (alikeT r t u).bind fun r' => alikeL r' l m := by
  unfold alikeL alikeT
  by_cases h1 : skT t u = true
  · simp only [skL, h1, Bool.true_and, if_true, Tm.vss]
    rw [List.zip_append (sk_vs t u h1), pairsR_append]
    by_cases h2 : skL l m = true
    · simp [h2]
    · simp only [h2]
      cases pairsR r (t.vs.zip u.vs) <;> simp
  · simp [skL, h1]
theorem alikeL_nil (r : List (Int × Int)) : alikeL r [] [] = some r := rfl
mutual
/-- its variables by their places in a list -/
def numT (L : List Int) : Tm → Tm
  | .var n => .var (placeI L n).toNat
  | .cmp s l => .cmp s (numTs L l)
  | .nil => .nil
  | .int z => .int z
  | .atom s => .atom s
def numTs (L : List Int) : List Tm → List Tm
  | [] => []
  | t :: l => numT L t :: numTs L l
end
theorem numTs_len (L : List Int) (l : List Tm) : (numTs L l).length = l.length := by
  induction l with
  | nil => rfl
  | cons t l ih => simp [numTs, ih]
theorem name_eq {s u : ByteArray} : (s.toList == u.toList) = true ↔ s = u := by
  constructor
  · intro h; exact toList_inj (by simpa using h)
  · rintro rfl; simp
theorem num_eq (L M : List Int) (a : Tm) : ∀ b, (∀ x ∈ a.vs, x ∈ L) → (∀ x ∈ b.vs, x ∈ M) → (numT L a = numT M b ↔ skT a b = true ∧ a.vs.map (placeI L) = b.vs.map (placeI M)) := by
  induction a using Tm.ind with
  | h4 s l ih =>
    intro b ha hb
    cases b with
    | cmp u m =>
      simp only [numT, Tm.cmp.injEq, skT, Bool.and_eq_true, name_eq, Tm.vs] at *
      rw [and_assoc]
      refine and_congr_right fun hsu => ?_
      clear hsu s u
      induction l generalizing m with
      | nil => cases m with
        | nil => simp [numTs, skL, Tm.vss]
        | cons u m => simp [numTs, skL]
      | cons t l ih2 =>
        cases m with
        | nil => simp [numTs, skL]
        | cons u m =>
          simp only [Tm.vss, List.mem_append] at ha hb
          simp only [numTs, List.cons.injEq, skL, Bool.and_eq_true, Tm.vss, List.map_append]
          rw [ih t (by simp) u (fun x hx => ha x (.inl hx)) (fun x hx => hb x (.inl hx)), ih2 (fun t ht => ih t (by simp [ht])) (fun x hx => ha x (.inr hx)) m (fun x hx => hb x (.inr hx))]
          constructor
          · rintro ⟨⟨h1, h2⟩, h3, h4⟩; exact ⟨⟨h1, h3⟩, by rw [h2, h4]⟩
          · rintro ⟨⟨h1, h3⟩, h5⟩
            have := List.append_inj h5 (by simpa using sk_vs t u h1)
            exact ⟨⟨h1, this.1⟩, h3, this.2⟩
    | _ => simp [numT, skT]
  | h1 n =>
    intro b ha hb
    cases b with
    | var m =>
      simp only [Tm.vs, List.mem_singleton, forall_eq] at ha hb
      have h1 := placeI_mem.2 ha
      have h2 := placeI_mem.2 hb
      simp only [numT, Tm.var.injEq, skT, true_and, Tm.vs, List.map_cons, List.map_nil, List.cons.injEq, and_true]
      omega
    | _ => simp [numT, skT]
  | h3 s =>
    intro b _ _
    cases b with
    | atom u => simp only [numT, Tm.atom.injEq, skT, name_eq, Tm.vs, List.map_nil, and_true]
    | _ => simp [numT, skT]
  | _ => intro b _ _; cases b <;> simp [numT, skT, Tm.vs]
def variantB (a b : Tm) : Bool := (alikeT [] a b).isSome
theorem variant_iff (a b : Tm) : variantB a b = true ↔ numT a.vars a = numT b.vars b := by
  rw [num_eq a.vars b.vars a b (fun x hx => mem_addVs.2 (.inr hx)) (fun x hx => mem_addVs.2 (.inr hx))]
  unfold variantB alikeT
  by_cases h : skT a b = true
  · rw [if_pos h]
    have := pairs_ok a.vs b.vs (sk_vs a b h) [] [] rfl List.nodup_nil List.nodup_nil
    simp only [List.zip_nil_left] at this
    rw [this]; simp [h, Tm.vars]
  · simp [h]
theorem variant_num (a b : Tm) : variantB a b = decide (cmpT (numT a.vars a) (numT b.vars b) = 0) := by
  apply Bool.eq_iff_iff.2
  rw [variant_iff, decide_eq_true_iff]
  exact ⟨fun h => by rw [h]; exact cmpT_self _, cmpT_eq0 _ _⟩
theorem variant_sym (a b : Tm) : variantB b a = variantB a b := by
  apply Bool.eq_iff_iff.2
  rw [variant_iff, variant_iff]; exact ⟨Eq.symm, Eq.symm⟩
theorem variant_self (a : Tm) : variantB a a = true := (variant_iff a a).2 rfl
end Go.Proofs.Ytmffobadnmkpbaa
namespace Go.Proofs.Ytmffobadnmkpbaa
open Go.RowKit

theorem below_one (w : World) (o : Obj) : Below w.heap.size w (w.alloc o) := (Below.refl _ _).alloc (Nat.le_refl _) o
theorem TmAt.nil_of {p : Nat → Prop} {w : World} {t : Tm} {a : Value} (h : TmAt p w t a) (hk : t.kind ≠ 4) : a = .slice none 0 0 := by
  cases h with
  | leaf => rfl
  | node => simp [Tm.kind] at hk

set_option maxRecDepth 100000 in
theorem args_c (t : Tm) (ao : Option Addr) (n c : Nat) (h : t.kind ≠ 4 → (.slice ao n c : Value) = .slice none 0 0) (w : World) :
    Calls Try.prog 62 #[.agg #[.int .i64 t.kind, .int .i64 t.num, .string t.name, .slice ao n c]] w fun e w' => e = .returned (.slice ao n c) ∧ Below w.heap.size w w' := by
  have HZ := Lib.hid (below_one w)
  by_cases hk : t.kind = 4
  · rw [hk]
    clear h hk
    go_enter Try.func62, Try.ntmps62
    go_wp2
    go_ret
    exact ⟨rfl, HZ.out _⟩
  · have he := h hk
    have hkb : (t.kind != 4) = true := by simpa using hk
    simp only [Value.slice.injEq] at he
    obtain ⟨rfl, rfl, rfl⟩ := he
    clear h hk
    go_enter Try.func62, Try.ntmps62
    go_wp2
    go_ret
    exact ⟨rfl, HZ.out _⟩

def SizeC (t : Tm) : Prop := ∀ (va : Value) (w : World), TmAt (fun _ => True) w t va → t.size ≤ 1000000000 →
  Calls Try.prog 15 #[tmV t va] w fun e w' => e = .returned (.int .i64 t.size) ∧ Below w.heap.size w w'

set_option maxRecDepth 100000 in
set_option maxHeartbeats 1600000 in
theorem size_step (t : Tm) (va : Value) (w : World) (ht : TmAt (fun _ => True) w t va) (hb : t.size ≤ 1000000000) (hC : ∀ u ∈ t.args, SizeC u) :
    Calls Try.prog 15 #[tmV t va] w fun e w' => e = .returned (.int .i64 t.size) ∧ Below w.heap.size w w' := by
  have h4 := fun h => ht.nil_of h
  obtain ⟨ao, cc, rfl, hc1, hc2⟩ := ht.shape
  have HT := Lib.hid (TsAt.of_tm ht)
  have HC := Lib.hid hC
  have HA : Hid (∀ W, Calls Try.prog 62 #[.agg #[.int .i64 t.kind, .int .i64 t.num, .string t.name, .slice ao t.args.length cc]] W fun e w' => e = .returned (.slice ao t.args.length cc) ∧ Below W.heap.size W w') := fun W => args_c t _ _ _ h4 W
  have HZ := Lib.hid (below_one w)
  have HS := Lib.hid t.size_eq
  have HB := Lib.hid hb
  have hl : t.args.length ≤ 1000000000 := by have h1 := Tm.sizes_len t.args; have h2 := t.size_eq; omega
  unfold tmV
  clear ht hC h4 hb hc1 hc2
  generalize t.size = z at *
  generalize t.args = l at *
  go_enter Try.func15, Try.ntmps15
  go_wp2_with (first | (go_at_call 62; ((with_reducible refine (HA.out _).mono ?_); rintro e W1 ⟨rfl, bb⟩; have B1 := Lib.hid ((HZ.out _).trans (bb.mono (by simp))); clear bb)))
  go_loopg [3, 9] l.length (fun n s i wr => ∃ (k : Nat) (S : Int), k ≤ l.length ∧ s = .int .i64 S ∧ i = .int .i64 k ∧ 0 ≤ S ∧ S ≤ 1000000000 ∧ Hid (n = l.length - k) ∧ Hid (S = 1 + Tm.sizes (l.take k)) ∧ Hid (Below w.heap.size w wr))
  case atStart => exact ⟨0, 1, by omega, rfl, rfl, by omega, by omega, rfl, Lib.hid (by simp [Tm.sizes]), B1⟩
  case round =>
    obtain ⟨k, S, hk, rfl, rfl, hS0, hS1, HN, HE, HW⟩ := hrel
    by_cases hlt : k < l.length
    · obtain ⟨b, off, a1, rfl, -, hcc, hta⟩ := (HT.out.later HW.out).get k hlt
      obtain ⟨ao1, c1, rfl, _⟩ := hta.shape
      have CX := Lib.hid (HC.out l[k] (List.getElem_mem hlt))
      have HD := Lib.hid (Tm.sizes_take l k hlt)
      have hbb : S + (l[k].size : Int) ≤ 1000000000 := by
        have h1 := HE.out; have h2 := HS.out; have h3 := HD.out; have h4 := Tm.sizes_take_le l (k + 1); have h5 := HB.out; omega
      generalize l[k] = u at *
      obtain ⟨x0, x1, x2, x3⟩ := hcc
      have hbl := World.block_lt_of_cell? wr _ x0
      have HU := Lib.hid hta
      have HZ2 := Lib.hid (below_one wr)
      have CC : Hid (∀ W, Below wr.heap.size wr W → Calls Try.prog 15 #[.agg #[.int .i64 u.kind, .int .i64 u.num, .string u.name, .slice ao1 u.args.length c1]] W fun e w' => e = .returned (.int .i64 u.size) ∧ Below W.heap.size W w') := fun W h => CX.out _ W (HU.out.later h) (by omega)
      clear hta CX
      generalize u.size = y at *
      go_wp2_with (first | (go_at_call 15; ((with_reducible refine (CC.out _ (HZ2.out _)).mono ?_); rintro e W2 ⟨rfl, bb⟩; have BB := Lib.hid bb; clear bb)))
      go_roundg (l.length - (k + 1))
      case measure => have := HN.out; omega
      case rel => exact ⟨k + 1, S + y, by omega, by go_num, by go_num, by omega, by omega, rfl, Lib.hid (by have h1 := HE.out; have h3 := HD.out; omega), HW.out.trans ((HZ2.out _).trans (BB.out.mono (by simp)) |>.mono HW.out.size)⟩
    · obtain rfl : k = l.length := by omega
      have HR : Hid (S = z) := by have h1 := HE.out; have h2 := HS.out; rw [List.take_length] at h1; show _ = _; omega
      go_wp2
      go_ret
      exact ⟨ret_int HR.out, HW.out⟩
theorem size_all (t : Tm) : SizeC t := by
  induction t using Tm.ind with
  | h4 s l ih => exact fun va w ha hb => size_step _ va w ha hb ih
  | _ => exact fun va w ha hb => size_step _ va w ha hb (by simp [Tm.args])
theorem size_c (t : Tm) (va : Value) (w : World) (ht : TmAt (fun _ => True) w t va) (hb : t.size ≤ 1000000000) :
    Calls Try.prog 15 #[tmV t va] w fun e w' => e = .returned (.int .i64 t.size) ∧ Below w.heap.size w w' := size_all t va w ht hb
end Go.Proofs.Ytmffobadnmkpbaa
namespace Go.Proofs.Ytmffobadnmkpbaa
open Go.RowKit

def IsAt (w : World) (v : Value) (zs : List Int) : Prop := SlAt w 1 v zs.length (zs.map (Value.int .i64))
theorem IsAt.below {w w' : World} {v : Value} {zs : List Int} (h : IsAt w v zs) (hb : Below w.heap.size w w') : IsAt w' v zs := SlAt.below h hb
theorem IsAt.shape {w : World} {v : Value} {zs : List Int} (h : IsAt w v zs) : ∃ ao cap, v = .slice ao zs.length cap ∧ zs.length ≤ cap ∧ cap ≤ maxLen := SlAt.shape h
theorem IsAt.own {w : World} {base : Nat} {e : TypeId} {v : Value} {zs : List Int} (h : w.ownsRow base e 1 v zs.length (zs.map (Value.int .i64))) : IsAt w v zs := SlAt.of_own h
theorem IsAt.getR {w : World} {ao : Option Addr} {n cap : Nat} {zs : List Int} (h : IsAt w (.slice ao n cap) zs) (k : Nat) (hk : k < zs.length) :
    ∃ b off, ao = some ⟨b, off, none⟩ ∧ zs.length ≤ cap ∧ b < w.heap.size ∧ w.cell? ⟨b, off + k, none⟩ = some (.int .i64 zs[k]) := by
  obtain ⟨b, off, c', he, hc, _, hb, hx⟩ := SlAt.pos h (by omega)
  simp only [Value.slice.injEq] at he
  obtain ⟨rfl, rfl, rfl⟩ := he
  exact ⟨b, off, rfl, hc, hb, by rw [hx k (by omega)]; simp [hk]⟩
/-- the list L, wherever it lies -/
def RetIs (L : List Int) (w : World) (e : Ending) (w' : World) : Prop := ∃ ao cap, e = .returned (.slice ao L.length cap) ∧ IsAt w' (.slice ao L.length cap) L ∧ Below w.heap.size w w'

theorem below_drewT {B : Nat} {w w' : World} (h : Below B w w') (q : Nat) : Below B w (w'.drewN q) := by
  induction q with
  | zero => exact h
  | succ q ih => exact ih.drew
set_option maxRecDepth 100000 in
theorem has_c (va : Value) (x : List Int) (n : Int) (w : World) (ha : IsAt w va x) (hl : x.length ≤ 1000000) :
    Calls Try.prog 64 #[va, .int .i64 n] w fun e w' => e = .returned (.bool (decide (n ∈ x))) ∧ Below w.heap.size w w' := by
  obtain ⟨ao, cap, rfl, _⟩ := ha.shape
  have HA := Lib.hid ha
  clear ha
  go_enter Try.func64, Try.ntmps64
  go_wp2
  go_loopg [5] x.length (fun m s wr => ∃ k : Nat, k ≤ x.length ∧ s = .int .i64 k ∧ Hid (m = x.length - k) ∧ Hid (n ∉ x.take k) ∧ Hid (Below w.heap.size w wr))
  case atStart => exact ⟨0, by omega, rfl, rfl, Lib.hid (by simp), Below.refl _ _⟩
  case round =>
    obtain ⟨k, hk, rfl, HN, HE, HW⟩ := hrel
    by_cases hlt : k < x.length
    · obtain ⟨b1, o1, rfl, q1, q2, hc1⟩ := (HA.out.below HW.out).getR k hlt
      have HS : Hid (n ≠ x[k] → n ∉ x.take (k + 1)) := fun h => by
        rw [List.take_succ_eq_append_getElem hlt, List.mem_append]; exact fun h3 => h3.elim (fun h2 => HE.out h2) (fun h2 => h (by simpa using h2))
      have HM : Hid (n = x[k] → n ∈ x) := fun h => h ▸ List.getElem_mem hlt
      generalize x[k] = p at *
      by_cases hpq : p = n
      · have hb : (p == n) = true := by simp [hpq]
        have HM2 := Lib.hid (HM.out hpq.symm)
        clear hpq HS HM
        go_wp2
        go_ret
        exact ⟨ret_bool (by symm; simp; exact HM2.out), HW.out⟩
      · have hb : (p == n) = false := by simp [hpq]
        have HS2 := Lib.hid (HS.out (fun e => hpq e.symm))
        clear hpq HS HM
        go_wp2
        go_roundg (x.length - (k + 1))
        case measure => have := HN.out; omega
        case rel => exact ⟨k + 1, by omega, by go_num, rfl, HS2, HW.out⟩
    · obtain rfl : k = x.length := by omega
      have HT : Hid (n ∉ x) := by have h := HE.out; rw [List.take_length] at h; exact h
      go_wp2
      go_ret
      exact ⟨ret_bool (by symm; simp; exact HT.out), HW.out⟩

set_option maxRecDepth 100000 in
theorem sameInts07_c (va vb : Value) (x y : List Int) (w : World) (ha : IsAt w va x) (hb : IsAt w vb y) (hl : x.length ≤ 1000000) :
    Calls Try.prog 19 #[va, vb] w fun e w' => e = .returned (.bool (decide (x = y))) ∧ Below w.heap.size w w' := by
  obtain ⟨ao, cap, rfl, _⟩ := SlAt.shape ha
  obtain ⟨ao2, cap2, rfl, _⟩ := SlAt.shape hb
  have HA := Lib.hid ha
  have HB := Lib.hid hb
  clear ha hb
  by_cases h1 : x.length = y.length
  case neg =>
    have hne : ((x.length : Int) != y.length) = true := by simp; omega
    have H1 := Lib.hid h1
    clear h1
    go_enter Try.func19, Try.ntmps19
    go_wp2
    go_ret
    exact ⟨ret_bool (by symm; simp; intro h; exact H1.out (by rw [h])), Below.refl _ _⟩
  case pos =>
    have H1 := Lib.hid h1
    have hne : ((x.length : Int) != y.length) = false := by rw [h1]; simp
    clear h1
    go_enter Try.func19, Try.ntmps19
    go_wp2
    go_loopg [5] x.length (fun m s wr => ∃ k : Nat, k ≤ x.length ∧ s = .int .i64 k ∧ Hid (m = x.length - k) ∧ Hid (x.take k = y.take k) ∧ Hid (Below w.heap.size w wr))
    case atStart => exact ⟨0, by omega, rfl, rfl, rfl, Lib.hid (Below.refl _ _)⟩
    case round =>
      obtain ⟨k, hk, rfl, HM, HE, HW⟩ := hrel
      by_cases hlt : k < x.length
      · have hly : k < y.length := by have := H1.out; omega
        obtain ⟨b1, o1, rfl, q1, q2, hc1⟩ := IsAt.getR (HA.out.below HW.out) k hlt
        obtain ⟨b2, o2, rfl, q3, q4, hc2⟩ := IsAt.getR (HB.out.below HW.out) k hly
        have j1 : (k : Int) < x.length := by omega
        have j2 : (k : Int) < y.length := by omega
        have HS : Hid (x[k] = y[k] → x.take (k + 1) = y.take (k + 1)) := fun h => by
          rw [List.take_succ_eq_append_getElem hlt, List.take_succ_eq_append_getElem hly, HE.out, h]
        have HN : Hid (x[k] ≠ y[k] → x ≠ y) := fun h he => by subst he; exact h rfl
        generalize x[k] = p at *
        generalize y[k] = q at *
        by_cases hpq : p = q
        · have hb : (p != q) = false := by simp [hpq]
          have HS2 := Lib.hid (HS.out hpq)
          clear HS HN
          go_wp2
          go_quiet (fail)
          go_wp2
          go_roundg (x.length - (k + 1))
          case measure => have := HM.out; omega
          case rel => exact ⟨k + 1, by omega, by go_num, rfl, HS2, Lib.hid (below_drewT HW.out _)⟩
        · have hb : (p != q) = true := by simp [hpq]
          have HN2 := Lib.hid (HN.out hpq)
          clear HS HN
          go_wp2
          go_quiet (fail)
          go_wp2
          go_ret
          exact ⟨ret_bool (by symm; simp; exact HN2.out), below_drewT HW.out _⟩
      · obtain rfl : k = x.length := by omega
        have HT : Hid (x = y) := by
          have h := HE.out
          rw [List.take_length, H1.out, List.take_length] at h
          exact h
        go_wp2
        go_ret
        exact ⟨ret_bool (by symm; simp; exact HT.out), HW.out⟩

set_option maxRecDepth 100000 in
theorem sameInts12_c (va vb : Value) (x y : List Int) (w : World) (ha : IsAt w va x) (hb : IsAt w vb y) (hl : x.length ≤ 1000000) :
    Calls Try.prog 48 #[va, vb] w fun e w' => e = .returned (.bool (decide (x = y))) ∧ Below w.heap.size w w' := by
  obtain ⟨ao, cap, rfl, _⟩ := SlAt.shape ha
  obtain ⟨ao2, cap2, rfl, _⟩ := SlAt.shape hb
  have HA := Lib.hid ha
  have HB := Lib.hid hb
  clear ha hb
  by_cases h1 : x.length = y.length
  case neg =>
    have hne : ((x.length : Int) != y.length) = true := by simp; omega
    have H1 := Lib.hid h1
    clear h1
    go_enter Try.func48, Try.ntmps48
    go_wp2
    go_ret
    exact ⟨ret_bool (by symm; simp; intro h; exact H1.out (by rw [h])), Below.refl _ _⟩
  case pos =>
    have H1 := Lib.hid h1
    have hne : ((x.length : Int) != y.length) = false := by rw [h1]; simp
    clear h1
    go_enter Try.func48, Try.ntmps48
    go_wp2
    go_loopg [5] x.length (fun m s wr => ∃ k : Nat, k ≤ x.length ∧ s = .int .i64 k ∧ Hid (m = x.length - k) ∧ Hid (x.take k = y.take k) ∧ Hid (Below w.heap.size w wr))
    case atStart => exact ⟨0, by omega, rfl, rfl, rfl, Lib.hid (Below.refl _ _)⟩
    case round =>
      obtain ⟨k, hk, rfl, HM, HE, HW⟩ := hrel
      by_cases hlt : k < x.length
      · have hly : k < y.length := by have := H1.out; omega
        obtain ⟨b1, o1, rfl, q1, q2, hc1⟩ := IsAt.getR (HA.out.below HW.out) k hlt
        obtain ⟨b2, o2, rfl, q3, q4, hc2⟩ := IsAt.getR (HB.out.below HW.out) k hly
        have j1 : (k : Int) < x.length := by omega
        have j2 : (k : Int) < y.length := by omega
        have HS : Hid (x[k] = y[k] → x.take (k + 1) = y.take (k + 1)) := fun h => by
          rw [List.take_succ_eq_append_getElem hlt, List.take_succ_eq_append_getElem hly, HE.out, h]
        have HN : Hid (x[k] ≠ y[k] → x ≠ y) := fun h he => by subst he; exact h rfl
        generalize x[k] = p at *
        generalize y[k] = q at *
        by_cases hpq : p = q
        · have hb : (p != q) = false := by simp [hpq]
          have HS2 := Lib.hid (HS.out hpq)
          clear HS HN
          go_wp2
          go_quiet (fail)
          go_wp2
          go_roundg (x.length - (k + 1))
          case measure => have := HM.out; omega
          case rel => exact ⟨k + 1, by omega, by go_num, rfl, HS2, Lib.hid (below_drewT HW.out _)⟩
        · have hb : (p != q) = true := by simp [hpq]
          have HN2 := Lib.hid (HN.out hpq)
          clear HS HN
          go_wp2
          go_quiet (fail)
          go_wp2
          go_ret
          exact ⟨ret_bool (by symm; simp; exact HN2.out), below_drewT HW.out _⟩
      · obtain rfl : k = x.length := by omega
        have HT : Hid (x = y) := by
          have h := HE.out
          rw [List.take_length, H1.out, List.take_length] at h
          exact h
        go_wp2
        go_ret
        exact ⟨ret_bool (by symm; simp; exact HT.out), HW.out⟩
end Go.Proofs.Ytmffobadnmkpbaa
namespace Go.Proofs.Ytmffobadnmkpbaa
open Go.RowKit Go.Maps

theorem Try.infoInt : (Try.prog.info? 3).map (fun i => (i.zero, i.size, i.bytes)) = some (some (.int .i64 0), 1, 8) := by kernel_rfl
theorem wpList_plainG {P : Program} {ops : Array Oper} {Q : Exit → Act → World → Prop} {a : Act} {w : World} {rest : List Oper} {o : Oper} (hg : Region.wanted o (yielded ops a.tmps) = true)
    (h : ∀ K : Act → World → Prop, (∀ a w, wpList P ops Q rest a w → K a w) → o.wp P a w K Q) : wpList P ops Q (o :: rest) a w :=
  wpList_step fun K hK => by rw [if_pos hg]; exact h K hK
/-- 'm[i]', guarded -/
theorem wpList_lookup_setG {P : Program} {K E : TypeId} {ops : Array Oper} {rest : List Oper} {o : Oper} {a : Act} {Q : Exit → Act → World → Prop} (w : World) (hg : Region.wanted o (yielded ops a.tmps) = true) (m x : Operand) (t : TypeId) (hop : o.op = Op.lookup t m x false)
    (hK : P.underlying K = some (.int .i64)) (ht : P.underlying t = some (.map K E)) (hE : P.underlying E = some .bool) (hz : (zeroValue E).run P w = .ok (.bool false) w)
    (b n : Nat) (S : Int → Bool) (hm : a.eval m = .map (some b)) (h : SetAt P K E w b n S) (i : Int) (hx : a.eval x = .int .i64 i) (hi : -9223372036854775808 ≤ i ∧ i ≤ 9223372036854775807)
    (hk : wpList P ops Q rest (a.put o.dst (.bool (S i))) w) : wpList P ops Q (o :: rest) a w := by
  refine wpList_plainG hg fun K' hK' => ?_
  obtain ⟨D, h1, h2, h3⟩ := h
  obtain ⟨v, ps, hrun, hv⟩ := h1.lookup (int_keyed hK) ht hz (plainElem_bool hE false) (keyOf_int_mk hK (wf64 hi))
  obtain ⟨c, rfl, hc⟩ := plainElem_bool_inv hE hv
  rw [h3] at hc
  simp only [Prod.mk.injEq, DataW.lit.injEq, Lit.bool.injEq] at hc
  unfold Oper.wp
  simp [execOp, hop, hm, hx, hrun, Result.andThen]
  rw [← hc.1]
  exact hK' _ _ hk
/-- what the closure of term.Vars holds on to: the list, what was seen, itself -/
structure VB (h : Nat) (w0 wr : World) (v : Value) (L M : List Int) : Prop where
  obox : Box1 wr (h + 1) v
  own : wr.ownsRow (h + 5) 3 1 v L.length (L.map (Value.int .i64))
  seen : Box1 wr (h + 3) (.map (some (h + 2)))
  walk : Box1 wr (h + 4) (.func (.func 63) #[] #[.pointer (some ⟨h + 3, 0, none⟩), .pointer (some ⟨h + 1, 0, none⟩), .pointer (some ⟨h + 4, 0, none⟩)])
  set : SetAt Try.prog 3 4 wr (h + 2) M.length (fun i => decide (i ∈ M))
  bel : Below h w0 wr
  size : h + 5 ≤ wr.heap.size
theorem Box1.blockEq {w w' : World} {b : Nat} {x : Value} (h : Box1 w b x) (e : w'.heap[b]? = w.heap[b]?) : Box1 w' b x :=
  ⟨(World.cell?_of_block (a := ⟨b, 0, none⟩) e).trans h.c0, (World.frozen?_of_block (a := ⟨b, 0, none⟩) e).trans h.f0⟩
theorem VB.below {h : Nat} {w0 wr wr' : World} {v : Value} {L M : List Int} (H : VB h w0 wr v L M) (hb : Below wr.heap.size wr wr') : VB h w0 wr' v L M :=
  ⟨H.obox.past hb, own_below H.own hb, H.seen.past hb, H.walk.past hb, H.set.later hb, H.bel.trans (hb.mono (by have := H.size; omega)), Nat.le_trans H.size hb.size⟩
theorem VB.grown {h : Nat} {w0 wr wr' : World} {v : Value} {L M M' : List Int} (H : VB h w0 wr v L M) (hg : wr.grownBy wr' (some (h + 2))) (hs : SetAt Try.prog 3 4 wr' (h + 2) M'.length (fun i => decide (i ∈ M'))) : VB h w0 wr' v L M' := by
  have hsz := H.size
  have hk : ∀ b, b < wr.heap.size → b ≠ h + 2 → wr'.heap[b]? = wr.heap[b]? := fun b hb hne => hg.block b hb (by simpa using hne)
  refine ⟨H.obox.blockEq (hk _ (by omega) (by omega)), ?_, H.seen.blockEq (hk _ (by omega) (by omega)), H.walk.blockEq (hk _ (by omega) (by omega)), hs, ?_, Nat.le_trans H.size hg.size⟩
  · refine ⟨H.own.1, ?_⟩
    rcases H.own.2 with hn | ⟨g, cap, cur, rfl, hg2, hgg, rest⟩
    · exact .inl hn
    · exact .inr ⟨g, cap, cur, rfl, hg2, (hk g (Array.getElem?_eq_some_iff.1 hgg).1 (by omega)).trans hgg, rest⟩
  · exact H.bel.grown hg (by omega) (fun j e => by cases e; omega)
theorem VB.app {h : Nat} {w0 wr w5 w6 : World} {v v' : Value} {L M : List Int} (H : VB h w0 wr v L M) (e5 : w5 = wr) {n : Int} (ho : w6.ownsRow (h + 5) 3 1 v' (L.length + 1) (L.map (Value.int .i64) ++ [.int .i64 n])) (hb : Below (h + 5) w5 w6) (hk : KeepsBut w5 w6 v) : VB h w0 (w6.setCell ⟨h + 1, 0, none⟩ v') v' (L ++ [n]) M := by
  subst e5
  have hsz := H.size
  have hn : ∀ b, b < h + 5 → w6.heap[b]? = w5.heap[b]? := fun b hb' => hk b (by omega) (own_ne H.own hb')
  refine ⟨(H.obox.blockEq (hn _ (by omega))).set v', ?_, (H.seen.blockEq (hn _ (by omega))).far (by simp) _, (H.walk.blockEq (hn _ (by omega))).far (by simp) _, (H.set.block (hn _ (by omega))).block (Below.heap_setCell _ _ _ _ (by simp)), ?_, ?_⟩
  · have := own_setCell ho (a := ⟨h + 1, 0, none⟩) (by simp) v'
    simpa using this
  · exact (H.bel.trans (hb.mono (by omega))).setCell (p := ⟨h + 1, 0, none⟩) (by simp) v'
  · have := hb.size; simp; omega

def WalkC (h : Nat) (w0 : World) (t : Tm) : Prop := ∀ (va : Value) (wr : World) (v : Value) (L : List Int), VB h w0 wr v L L → TmAt (fun b => b < h) w0 t va → t.ok → L.length + t.size ≤ 100000000 →
  Calls Try.prog 63 #[tmV t va, .pointer (some ⟨h + 3, 0, none⟩), .pointer (some ⟨h + 1, 0, none⟩), .pointer (some ⟨h + 4, 0, none⟩)] wr fun e w' => e = .returned (.tuple #[]) ∧ ∃ v', VB h w0 w' v' (addVs L t.vs) (addVs L t.vs)
end Go.Proofs.Ytmffobadnmkpbaa
