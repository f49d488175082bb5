/-
  VARIANTS: in plain Lean. Terms whose variables are renamed one to one.
  VARIANTS: shapes, renamings and numbered terms are one. In plain Lean.
  term.Compare, walked.
  coneyref07.Compare, walked.
  coneylaw07.some: the terms of a text's sentences, walked.
  coneylaw07.some, walked.
  coneylaw07.one, walked.
-/
import Derived.Test.YtmffobadnmkpbaaKtm1
import Derived.Test.YtmffobadnmkpbaaKtm2
import Derived.Deep.RegionHeld3
import Derived.Deep.Cut
import Derived.Handy
import Derived.Test.YtmffobadnmkpbaaKpars7
namespace Go.Proofs.Ytmffobadnmkpbaa
open Go.RowKit

/-- the first place of a number in a list; -1: none -/
def placeI (l : List Int) (n : Int) : Int := match l with
  | [] => -1
  | x :: r => if x = n then 0 else let k := placeI r n; if k < 0 then -1 else k + 1
theorem placeI_ge (l : List Int) (n : Int) : -1 ≤ placeI l n := by
  induction l with
  | nil => simp [placeI]
  | cons x r ih => simp only [placeI]; split; (· omega); split <;> omega
theorem placeI_mem {l : List Int} {n : Int} : 0 ≤ placeI l n ↔ n ∈ l := by
  induction l with
  | nil => simp [placeI]
  | cons x r ih =>
    simp only [placeI, List.mem_cons]
    by_cases h : x = n
    · simp [h]
    · have := placeI_ge r n
      simp only [h, if_false]
      by_cases hk : placeI r n < 0
      · have : ¬ n ∈ r := fun hm => by have := ih.2 hm; omega
        simp [hk, this, Ne.symm h]
      · have : n ∈ r := ih.1 (by omega)
        simp [hk, this]; omega
theorem placeI_lt {l : List Int} {n : Int} : placeI l n < l.length := by
  induction l with
  | nil => simp [placeI]
  | cons x r ih => simp only [placeI, List.length_cons]; split; (· omega); split <;> omega
theorem placeI_app {l : List Int} {n : Int} (h : n ∈ l) (m : List Int) : placeI (l ++ m) n = placeI l n := by
  induction l with
  | nil => cases h
  | cons x r ih =>
    simp only [List.cons_append, placeI]
    by_cases hx : x = n
    · simp [hx]
    · have hr : n ∈ r := by rcases List.mem_cons.1 h with e | e; (· exact absurd e.symm hx); (· exact e)
      simp only [hx, if_false, ih hr]
theorem placeI_new {l : List Int} {n : Int} (h : n ∉ l) (m : List Int) : placeI (l ++ n :: m) n = l.length := by
  induction l with
  | nil => simp [placeI]
  | cons x r ih =>
    have hx : ¬ x = n := fun e => h (by simp [e])
    have hr : n ∉ r := fun e => h (by simp [e])
    simp only [List.cons_append, placeI, hx, if_false, ih hr, List.length_cons]
    have : ¬ ((r.length : Int) < 0) := by omega
    simp [this]
theorem placeI_inj {l : List Int} {a b : Int} (ha : a ∈ l) (h : placeI l a = placeI l b) : a = b := by
  induction l with
  | nil => cases ha
  | cons x r ih =>
    simp only [placeI] at h
    by_cases h1 : x = a
    · by_cases h2 : x = b
      · exact h1.symm.trans h2
      · exfalso
        have := placeI_ge r b
        rw [if_pos h1, if_neg h2] at h
        split at h <;> omega
    · have har : a ∈ r := by rcases List.mem_cons.1 ha with e | e; (· exact absurd e.symm h1); (· exact e)
      have hpa := placeI_mem.2 har
      simp only [h1, if_false] at h
      by_cases h2 : x = b
      · simp only [h2, if_true] at h
        split at h <;> omega
      · simp only [h2, if_false] at h
        have := placeI_ge r b
        refine ih har ?_
        split at h <;> split at h <;> omega
theorem addVs_prefix (U A : List Int) : ∃ X, addVs U A = U ++ X := by
  induction A generalizing U with
  | nil => exact ⟨[], by simp [addVs_nil]⟩
  | cons a A ih =>
    rw [addVs_cons]
    obtain ⟨X, hX⟩ := ih (addV U a)
    by_cases ha : a ∈ U
    · have e : addV U a = U := addV_mem ha
      rw [e] at hX ⊢; exact ⟨X, hX⟩
    · have e : addV U a = U ++ [a] := addV_new ha
      rw [e] at hX ⊢; exact ⟨a :: X, by rw [hX]; simp⟩
/-- a renaming's pairs, and one more -/
def pairR (r : List (Int × Int)) (a b : Int) : Option (List (Int × Int)) :=
  if a ∉ r.map Prod.fst ∧ b ∉ r.map Prod.snd then some (r ++ [(a, b)]) else if (a, b) ∈ r then some r else none
def pairsR (r : List (Int × Int)) : List (Int × Int) → Option (List (Int × Int))
  | [] => some r
  | p :: l => (pairR r p.1 p.2).bind fun r' => pairsR r' l
theorem pairsR_append (r : List (Int × Int)) (l m : List (Int × Int)) : pairsR r (l ++ m) = (pairsR r l).bind fun r' => pairsR r' m := by
  induction l generalizing r with
  | nil => rfl
  | cons p l ih =>
    simp only [List.cons_append, pairsR]
    cases pairR r p.1 p.2 with
    | none => rfl
    | some r' => simp [ih]
/-- pairs whose firsts, and whose seconds, are all unlike -/
def OneR (r : List (Int × Int)) : Prop := (r.map Prod.fst).Nodup ∧ (r.map Prod.snd).Nodup
theorem OneR.pair {r r' : List (Int × Int)} (h : OneR r) {a b : Int} (hp : pairR r a b = some r') : OneR r' := by
  unfold pairR at hp
  split at hp
  · rename_i hn
    simp only [Option.some.injEq] at hp; subst hp
    constructor
    · rw [List.map_append, List.nodup_append]; exact ⟨h.1, by simp, fun x hx y hy => by simp at hy; subst hy; exact fun e => hn.1 (e ▸ hx)⟩
    · rw [List.map_append, List.nodup_append]; exact ⟨h.2, by simp, fun x hx y hy => by simp at hy; subst hy; exact fun e => hn.2 (e ▸ hx)⟩
  · split at hp
    · simp only [Option.some.injEq] at hp; subst hp; exact h
    · cases hp
theorem zip_mem {U V : List Int} (hl : U.length = V.length) (hU : U.Nodup) (hV : V.Nodup) {a b : Int} (ha : a ∈ U) : (a, b) ∈ U.zip V ↔ placeI U a = placeI V b := by
  induction U generalizing V with
  | nil => cases ha
  | cons u U ih =>
    cases V with
    | nil => simp at hl
    | cons v V =>
      simp only [List.length_cons, Nat.add_right_cancel_iff] at hl
      have hU' := List.nodup_cons.1 hU
      have hV' := List.nodup_cons.1 hV
      simp only [List.zip_cons_cons, List.mem_cons, Prod.mk.injEq, placeI]
      by_cases h1 : u = a
      · subst h1
        by_cases h2 : v = b
        · subst h2; simp
        · have hnz : ¬ (u, b) ∈ U.zip V := fun hm => hU'.1 (List.of_mem_zip hm).1
          have := placeI_ge V b
          simp only [h2, hnz, if_true, if_false, Ne.symm h2, and_false, or_self, false_iff]
          split <;> omega
      · have haU : a ∈ U := by rcases List.mem_cons.1 ha with e | e; (· exact absurd e.symm h1); (· exact e)
        have hpa := placeI_mem.2 haU
        have hge := placeI_ge V b
        rw [or_iff_right (fun h => h1 h.1.symm), ih hl hU'.2 hV'.2 haU]
        by_cases h2 : v = b
        · subst h2
          have : placeI V v < 0 := by
            have : ¬ 0 ≤ placeI V v := fun h => hV'.1 (placeI_mem.1 h)
            omega
          simp only [h1, if_false, if_true]
          split <;> constructor <;> intro h <;> omega
        · simp only [h1, h2, if_false]
          split <;> split <;> constructor <;> intro h <;> omega
theorem pairs_ok (A B : List Int) (hAB : A.length = B.length) : ∀ U V : List Int, U.length = V.length → U.Nodup → V.Nodup →
    ((pairsR (U.zip V) (A.zip B)).isSome = true ↔ A.map (placeI (addVs U A)) = B.map (placeI (addVs V B))) := by
  induction A generalizing B with
  | nil => cases B with
    | nil => intro U V _ _ _; simp [pairsR]
    | cons b B => simp at hAB
  | cons a A ih =>
    cases B with
    | nil => simp at hAB
    | cons b B =>
      simp only [List.length_cons, Nat.add_right_cancel_iff] at hAB
      intro U V hl hU hV
      have e1 : (U.zip V).map Prod.fst = U := List.map_fst_zip (Nat.le_of_eq hl)
      have e2 : (U.zip V).map Prod.snd = V := List.map_snd_zip (Nat.le_of_eq hl.symm)
      simp only [List.zip_cons_cons, pairsR, List.map_cons, List.cons.injEq, addVs_cons]
      obtain ⟨X, hX⟩ := addVs_prefix (addV U a) A
      obtain ⟨Y, hY⟩ := addVs_prefix (addV V b) B
      by_cases ha : a ∈ U <;> by_cases hb : b ∈ V
      · have hA : addV U a = U := addV_mem ha
        have hB : addV V b = V := addV_mem hb
        rw [hA] at hX ⊢; rw [hB] at hY ⊢
        have hpl : placeI (addVs U A) a = placeI U a := by rw [hX]; exact placeI_app ha _
        have hpr : placeI (addVs V B) b = placeI V b := by rw [hY]; exact placeI_app hb _
        rw [hpl, hpr]
        by_cases hm : (a, b) ∈ U.zip V
        · have hp : pairR (U.zip V) a b = some (U.zip V) := by simp [pairR, e1, e2, ha, hm]
          rw [hp]
          simp only [Option.bind_some, ih B hAB U V hl hU hV, (zip_mem hl hU hV ha).1 hm, true_and]
        · have hp : pairR (U.zip V) a b = none := by simp [pairR, e1, e2, ha, hm]
          rw [hp]
          have : ¬ placeI U a = placeI V b := fun h => hm ((zip_mem hl hU hV ha).2 h)
          simp [this]
      · have hA : addV U a = U := addV_mem ha
        have hB : addV V b = V ++ [b] := addV_new hb
        rw [hA] at hX ⊢; rw [hB] at hY ⊢
        have hpl : placeI (addVs U A) a = placeI U a := by rw [hX]; exact placeI_app ha _
        have hpr : placeI (addVs (V ++ [b]) B) b = V.length := by rw [hY]; simpa using placeI_new hb Y
        have hm : ¬ (a, b) ∈ U.zip V := fun h => hb (List.of_mem_zip h).2
        have hp : pairR (U.zip V) a b = none := by simp [pairR, e1, e2, ha, hm]
        have hlt := placeI_lt (l := U) (n := a)
        rw [hp, hpl, hpr]
        have : ¬ placeI U a = (V.length : Int) := by omega
        simp [this]
      · have hA : addV U a = U ++ [a] := addV_new ha
        have hB : addV V b = V := addV_mem hb
        rw [hA] at hX ⊢; rw [hB] at hY ⊢
        have hpl : placeI (addVs (U ++ [a]) A) a = U.length := by rw [hX]; simpa using placeI_new ha X
        have hpr : placeI (addVs V B) b = placeI V b := by rw [hY]; exact placeI_app hb _
        have hm : ¬ (a, b) ∈ U.zip V := fun h => ha (List.of_mem_zip h).1
        have hp : pairR (U.zip V) a b = none := by simp [pairR, e1, e2, hb, hm]
        have hlt := placeI_lt (l := V) (n := b)
        rw [hp, hpl, hpr]
        have : ¬ (U.length : Int) = placeI V b := by omega
        simp [this]
      · have hA : addV U a = U ++ [a] := addV_new ha
        have hB : addV V b = V ++ [b] := addV_new hb
        rw [hA] at hX ⊢; rw [hB] at hY ⊢
        have hpl : placeI (addVs (U ++ [a]) A) a = U.length := by rw [hX]; simpa using placeI_new ha X
        have hpr : placeI (addVs (V ++ [b]) B) b = V.length := by rw [hY]; simpa using placeI_new hb Y
        have hz : (U ++ [a]).zip (V ++ [b]) = U.zip V ++ [(a, b)] := by rw [List.zip_append hl]; rfl
        have hp : pairR (U.zip V) a b = some ((U ++ [a]).zip (V ++ [b])) := by simp [pairR, e1, e2, ha, hb, hz]
        rw [hp, hpl, hpr]
        have hU2 : (U ++ [a]).Nodup := by rw [List.nodup_append]; exact ⟨hU, by simp, fun x hx y hy => by simp at hy; subst hy; exact fun e => ha (e ▸ hx)⟩
        have hV2 : (V ++ [b]).Nodup := by rw [List.nodup_append]; exact ⟨hV, by simp, fun x hx y hy => by simp at hy; subst hy; exact fun e => hb (e ▸ hx)⟩
        simp only [Option.bind_some, ih B hAB (U ++ [a]) (V ++ [b]) (by simp [hl]) hU2 hV2, hl, true_and]
end Go.Proofs.Ytmffobadnmkpbaa
namespace Go.Proofs.Ytmffobadnmkpbaa
open Go.RowKit

mutual
/-- the same but for their variables -/
def skT : Tm → Tm → Bool
  | .nil, .nil => true
  | .var _, .var _ => true
  | .int z, .int y => z == y
  | .atom s, .atom u => s.toList == u.toList
  | .cmp s l, .cmp u m => s.toList == u.toList && skL l m
  | _, _ => false
def skL : List Tm → List Tm → Bool
  | [], [] => true
  | t :: l, u :: m => skT t u && skL l m
  | _, _ => false
end
theorem skL_len : ∀ {l m : List Tm}, skL l m = true → l.length = m.length
  | [], [], _ => rfl
  | t :: l, u :: m, h => by
    simp only [skL, Bool.and_eq_true] at h
    simp [skL_len h.2]
  | [], _ :: _, h => by simp [skL] at h
  | _ :: _, [], h => by simp [skL] at h
theorem sk_vs (a : Tm) : ∀ b, skT a b = true → a.vs.length = b.vs.length := by
  induction a using Tm.ind with
  | h4 s l ih =>
    intro b h
    cases b with
    | cmp u m =>
      simp only [skT, Bool.and_eq_true] at h
      replace h := h.2
      simp only [Tm.vs]
      clear s u
      induction l generalizing m with
      | nil => cases m with
        | nil => rfl
        | cons u m => simp [skL] at h
      | cons t l ih2 =>
        cases m with
        | nil => simp [skL] at h
        | cons u m =>
          simp only [skL, Bool.and_eq_true] at h
          simp only [Tm.vss, List.length_append]
          rw [ih t (by simp) u h.1, ih2 (fun t ht => ih t (by simp [ht])) m h.2]
    | _ => simp [skT] at h
  | _ => intro b h; cases b <;> simp [skT] at h <;> rfl
theorem skL_vss {l m : List Tm} (h : skL l m = true) : (Tm.vss l).length = (Tm.vss m).length := by
  have := sk_vs (.cmp ⟨#[]⟩ l) (.cmp ⟨#[]⟩ m) (by simp [skT, h])
  simpa [Tm.vs] using this
theorem skT_eq (a b : Tm) : skT a b = (decide (a.kind = b.kind) && (decide (a.args.length = b.args.length) && (if a.kind = 1 then true else if a.kind = 2 then a.num == b.num else (a.name.toList == b.name.toList) && skL a.args b.args))) := by
  cases a <;> cases b <;> simp [skT, Tm.kind, Tm.args, Tm.num, Tm.name, skL]
  rename_i s l u m
  intro _ h
  first
    | exact decide_eq_true (skL_len h)
    | exact skL_len h
/-- alike under a renaming: the renaming then -/
def alikeT (r : List (Int × Int)) (a b : Tm) : Option (List (Int × Int)) := if skT a b then pairsR r (a.vs.zip b.vs) else none
def alikeL (r : List (Int × Int)) (l m : List Tm) : Option (List (Int × Int)) := if skL l m then pairsR r ((Tm.vss l).zip (Tm.vss m)) else none
theorem alikeL_cons (r : List (Int × Int)) (t u : Tm) (l m : List Tm) : alikeL r (t :: l) (u :: m) = (alikeT r t u).bind fun r' => alikeL r' l m := by
  unfold alikeL alikeT
  by_cases h1 : skT t u = true
  · simp only [skL, h1, Bool.true_and, if_true, Tm.vss]
    rw [List.zip_append (sk_vs t u h1), pairsR_append]
    by_cases h2 : skL l m = true
    · simp [h2]
    · simp only [h2]
      cases pairsR r (t.vs.zip u.vs) <;> simp
  · simp [skL, h1]
theorem alikeL_nil (r : List (Int × Int)) : alikeL r [] [] = some r := rfl
mutual
/-- its variables by their places in a list -/
def numT (L : List Int) : Tm → Tm
  | .var n => .var (placeI L n).toNat
  | .cmp s l => .cmp s (numTs L l)
  | .nil => .nil
  | .int z => .int z
  | .atom s => .atom s
def numTs (L : List Int) : List Tm → List Tm
  | [] => []
  | t :: l => numT L t :: numTs L l
end
theorem numTs_len (L : List Int) (l : List Tm) : (numTs L l).length = l.length := by
  induction l with
  | nil => rfl
  | cons t l ih => simp [numTs, ih]
theorem name_eq {s u : ByteArray} : (s.toList == u.toList) = true ↔ s = u := by
  constructor
  · intro h; exact toList_inj (by simpa using h)
  · rintro rfl; simp
theorem num_eq (L M : List Int) (a : Tm) : ∀ b, (∀ x ∈ a.vs, x ∈ L) → (∀ x ∈ b.vs, x ∈ M) → (numT L a = numT M b ↔ skT a b = true ∧ a.vs.map (placeI L) = b.vs.map (placeI M)) := by
  induction a using Tm.ind with
  | h4 s l ih =>
    intro b ha hb
    cases b with
    | cmp u m =>
      simp only [numT, Tm.cmp.injEq, skT, Bool.and_eq_true, name_eq, Tm.vs] at *
      rw [and_assoc]
      refine and_congr_right fun hsu => ?_
      clear hsu s u
      induction l generalizing m with
      | nil => cases m with
        | nil => simp [numTs, skL, Tm.vss]
        | cons u m => simp [numTs, skL]
      | cons t l ih2 =>
        cases m with
        | nil => simp [numTs, skL]
        | cons u m =>
          simp only [Tm.vss, List.mem_append] at ha hb
          simp only [numTs, List.cons.injEq, skL, Bool.and_eq_true, Tm.vss, List.map_append]
          rw [ih t (by simp) u (fun x hx => ha x (.inl hx)) (fun x hx => hb x (.inl hx)), ih2 (fun t ht => ih t (by simp [ht])) (fun x hx => ha x (.inr hx)) m (fun x hx => hb x (.inr hx))]
          constructor
          · rintro ⟨⟨h1, h2⟩, h3, h4⟩; exact ⟨⟨h1, h3⟩, by rw [h2, h4]⟩
          · rintro ⟨⟨h1, h3⟩, h5⟩
            have := List.append_inj h5 (by simpa using sk_vs t u h1)
            exact ⟨⟨h1, this.1⟩, h3, this.2⟩
    | _ => simp [numT, skT]
  | h1 n =>
    intro b ha hb
    cases b with
    | var m =>
      simp only [Tm.vs, List.mem_singleton, forall_eq] at ha hb
      have h1 := placeI_mem.2 ha
      have h2 := placeI_mem.2 hb
      simp only [numT, Tm.var.injEq, skT, true_and, Tm.vs, List.map_cons, List.map_nil, List.cons.injEq, and_true]
      omega
    | _ => simp [numT, skT]
  | h3 s =>
    intro b _ _
    cases b with
    | atom u => simp only [numT, Tm.atom.injEq, skT, name_eq, Tm.vs, List.map_nil, and_true]
    | _ => simp [numT, skT]
  | _ => intro b _ _; cases b <;> simp [numT, skT, Tm.vs]
def variantB (a b : Tm) : Bool := (alikeT [] a b).isSome
theorem variant_iff (a b : Tm) : variantB a b = true ↔ numT a.vars a = numT b.vars b := by
  rw [num_eq a.vars b.vars a b (fun x hx => mem_addVs.2 (.inr hx)) (fun x hx => mem_addVs.2 (.inr hx))]
  unfold variantB alikeT
  by_cases h : skT a b = true
  · rw [if_pos h]
    have := pairs_ok a.vs b.vs (sk_vs a b h) [] [] rfl List.nodup_nil List.nodup_nil
    simp only [List.zip_nil_left] at this
    rw [this]; simp [h, Tm.vars]
  · simp [h]
theorem variant_num (a b : Tm) : variantB a b = decide (cmpT (numT a.vars a) (numT b.vars b) = 0) := by
  apply Bool.eq_iff_iff.2
  rw [variant_iff, decide_eq_true_iff]
  exact ⟨fun h => by rw [h]; exact cmpT_self _, cmpT_eq0 _ _⟩
theorem variant_sym (a b : Tm) : variantB b a = variantB a b := by
  apply Bool.eq_iff_iff.2
  rw [variant_iff, variant_iff]; exact ⟨Eq.symm, Eq.symm⟩
theorem variant_self (a : Tm) : variantB a a = true := (variant_iff a a).2 rfl
end Go.Proofs.Ytmffobadnmkpbaa
namespace Go.Proofs.Ytmffobadnmkpbaa
open Go.RowKit

theorem box_two (w : World) (a0 a1 a2 a3 b0 b1 b2 b3 : Value) (W' : World) (h : Below (w.heap.size + 2) ((w.alloc (.cells #[a0, a1, a2, a3] 24)).alloc (.cells #[b0, b1, b2, b3] 24)) W') :
    W'.cell? ⟨w.heap.size, 2, none⟩ = some a2 ∧ W'.cell? ⟨w.heap.size, 3, none⟩ = some a3 ∧ W'.cell? ⟨w.heap.size + 1, 2, none⟩ = some b2 ∧ W'.cell? ⟨w.heap.size + 1, 3, none⟩ = some b3 := by
  have h0 : BoxL W' w.heap.size [a0, a1, a2, a3] := ((BoxL.mk' w #[a0, a1, a2, a3] 24).below ((Below.refl _ _).alloc (Nat.le_refl _) _) (by simp)).block (h.block _ (by omega))
  have h1 : BoxL W' (w.heap.size + 1) [b0, b1, b2, b3] := by
    have e := BoxL.mk' (w.alloc (.cells #[a0, a1, a2, a3] 24)) #[b0, b1, b2, b3] 24
    rw [show (w.alloc (.cells #[a0, a1, a2, a3] 24)).heap.size = w.heap.size + 1 by simp] at e
    exact e.block (h.block _ (by omega))
  exact ⟨(h0.get 2 rfl).1, (h0.get 3 rfl).1, (h1.get 2 rfl).1, (h1.get 3 rfl).1⟩

theorem below_three (w : World) (o o2 o3 : Obj) : Below w.heap.size w ((((w.alloc o).alloc o2).alloc o3).drew) := ((below_two w o o2).alloc (by simp; omega) o3).drew
theorem cmpT_kind {a b : Tm} (h : a.kind ≠ b.kind) : cmpT a b = cmpI a.kind b.kind := by rw [cmpT_eq, lex_ne _ (fun e => h (cmpI_zero.1 e))]
theorem cmpT_num {a b : Tm} (h : a.kind = b.kind) (h2 : a.kind = 1 ∨ a.kind = 2) : cmpT a b = cmpI a.num b.num := by
  rw [cmpT_eq, h, cmpI_self, lex_zero]
  have hb : b.kind = 1 ∨ b.kind = 2 := h ▸ h2
  cases a <;> cases b <;> simp [Tm.kind] at h2 hb <;> simp [Tm.name, Tm.args, cmpI_self, lex_right, cmpL, cmpS, cmpB]
theorem cmpT_name {a b : Tm} (h : a.kind = b.kind) (h2 : a.kind = 3) : cmpT a b = cmpS a.name b.name := by
  rw [cmpT_eq, h, cmpI_self, lex_zero]
  have hb : b.kind = 3 := h ▸ h2
  cases a <;> cases b <;> simp [Tm.kind] at h2 hb <;> simp [Tm.name, Tm.num, Tm.args, cmpI_self, lex_zero, lex_right, cmpL]
theorem cmpT_rest {a b : Tm} (h : a.kind = b.kind) (h2 : a.kind ≠ 1) (h3 : a.kind ≠ 2) : cmpT a b = lex (lex (cmpI a.args.length b.args.length) (cmpS a.name b.name)) (cmpL a.args b.args) := by
  rw [cmpT_eq, h, cmpI_self, lex_zero]
  have e : cmpI a.num b.num = 0 := by
    rw [cmpI_zero]
    have hb2 : b.kind ≠ 1 := h ▸ h2
    have hb3 : b.kind ≠ 2 := h ▸ h3
    cases a <;> cases b <;> simp [Tm.kind] at h2 h3 hb2 hb3 <;> rfl
  rw [e, lex_zero]
  unfold lex
  split <;> simp_all

set_option maxRecDepth 100000 in
set_option maxHeartbeats 1600000 in
theorem compareT_step (a b : Tm) (va vb : Value) (w : World) (ha : TmAt (fun _ => True) w a va) (hb : TmAt (fun _ => True) w b vb) (hC : ∀ t ∈ a.args, CmpC t) :
    Calls Try.prog 23 #[tmV a va, tmV b vb] w fun e w' => e = .returned (.int .i64 (cmpT a b)) ∧ Below w.heap.size w w' := by
  obtain ⟨ao1, cc1, rfl, _⟩ := ha.shape
  obtain ⟨ao2, cc2, rfl, _⟩ := hb.shape
  have HZ := Lib.hid (below_two w)
  have HA := Lib.hid ha
  have HB := Lib.hid hb
  have HC := Lib.hid hC
  clear ha hb hC
  unfold tmV
  by_cases hk : a.kind = b.kind
  · by_cases h12 : a.kind = 1 ∨ a.kind = 2
    · rw [cmpT_num hk h12]
      have hkb : b.kind = a.kind := hk.symm
      rw [hkb]
      rcases h12 with h | h
      all_goals
        rw [h]
        go_enter Try.func23, Try.ntmps23
        go_wp2_with (first | (go_at_call 66; (with_reducible refine (compareI_c _ _ _).mono ?_); rintro e w' ⟨rfl, rfl⟩))
        go_ret
        exact ⟨rfl, HZ.out _ _⟩
    by_cases h3 : a.kind = 3
    · rw [cmpT_name hk h3]
      have hkb : b.kind = a.kind := hk.symm
      rw [hkb, h3]
      go_enter Try.func23, Try.ntmps23
      go_wp2_with (first | (go_at_call 67; (with_reducible refine (compareS_c _ _ _).mono ?_); rintro e w' ⟨rfl, rfl⟩))
      go_ret
      exact ⟨rfl, HZ.out _ _⟩
    have HE := Lib.hid (cmpT_rest hk (fun h => h12 (.inl h)) (fun h => h12 (.inr h)))
    have hkb : b.kind = a.kind := hk.symm
    rw [hkb]
    have k1 : (a.kind == 1) = false := by simpa using fun h => h12 (.inl h)
    have k2 : (a.kind == 2) = false := by simpa using fun h => h12 (.inr h)
    have k3 : (a.kind == 3) = false := by simpa using h3
    have HX : Hid (∀ W, Below w.heap.size w W → Calls Try.prog 69 #[.slice ao1 a.args.length cc1, .slice ao2 b.args.length cc2, .func (.func 23) #[] #[]] W fun e w' => e = .returned (.int .i64 (cmpL a.args b.args)) ∧ Below W.heap.size W w') := fun W h =>
      cmpFunc_c _ _ _ _ W (TsAt.of_tm (HA.out.later h)) (TsAt.of_tm (HB.out.later h)) HC.out
    clear hk hkb h12 h3
    have HS := Lib.hid (box_two w (.int .i64 a.kind) (.int .i64 a.num) (.string a.name) (.slice ao1 a.args.length cc1) (.int .i64 a.kind) (.int .i64 b.num) (.string b.name) (.slice ao2 b.args.length cc2))
    generalize a.kind = k at *
    generalize cmpT a b = z at *
    go_enter Try.func23, Try.ntmps23
    go_upto_region 9 with (first | (go_at_call 66; (with_reducible refine (compareI_c _ _ _).mono ?_); rintro e w' ⟨rfl, rfl⟩))
    have s0 := HS.out _ (Below.refl _ _)
    go_region_held3 (fun W' => W'.cell? ⟨w.heap.size, 2, none⟩ = some (.string a.name) ∧ W'.cell? ⟨w.heap.size, 3, none⟩ = some (.slice ao1 a.args.length cc1) ∧ W'.cell? ⟨w.heap.size + 1, 2, none⟩ = some (.string b.name) ∧ W'.cell? ⟨w.heap.size + 1, 3, none⟩ = some (.slice ao2 b.args.length cc2)) ((first | exact s0 | (refine HS.out _ ?_; go_grown)))
      (first
        | (go_at_call 66; (with_reducible refine (compareI_c _ _ _).mono ?_); rintro e w' ⟨rfl, rfl⟩)
        | (go_at_call 67; (with_reducible refine (compareS_c _ _ _).mono ?_); rintro e w' ⟨rfl, rfl⟩)
        | (go_at_call 68; (refine (or_c _ (cmpI a.args.length b.args.length) (cmpS a.name b.name) _ ?_ ?_).mono ?_); (· simp [go_sem]); (· simp [go_sem]); rintro e w' ⟨rfl, rfl⟩))
    clear s0
    generalize lex (cmpI a.args.length b.args.length) (cmpS a.name b.name) = c at *
    have HG := Lib.hid (below_three w)
    by_cases hc : c = 0
    · subst hc
      go_wp2_with (first | (go_at_call 69; ((with_reducible refine (HX.out _ (HG.out _ _ _)).mono ?_); rintro e W2 ⟨rfl, bb⟩; have BB := Lib.hid bb; clear bb)))
      go_ret
      exact ⟨ret_int HE.out.symm, (HG.out _ _ _).trans (BB.out.mono (by simp; omega))⟩
    · have HN := Lib.hid hc
      have hcb : (c != 0) = true := by simpa using hc
      clear hc
      go_wp2
      go_ret
      exact ⟨ret_int (HE.out.trans (lex_ne _ HN.out)).symm, HG.out _ _ _⟩
  · rw [cmpT_kind hk]
    have hkb : (a.kind != b.kind) = true := by simpa using hk
    clear hk
    go_enter Try.func23, Try.ntmps23
    go_wp2_with (first | (go_at_call 66; (with_reducible refine (compareI_c _ _ _).mono ?_); rintro e w' ⟨rfl, rfl⟩))
    go_ret
    exact ⟨rfl, HZ.out _ _⟩
theorem compareT_all (t : Tm) : CmpC t := by
  induction t using Tm.ind with
  | h4 s l ih => exact fun u va vb w ha hb => compareT_step _ u va vb w ha hb ih
  | _ => exact fun u va vb w ha hb => compareT_step _ u va vb w ha hb (by simp [Tm.args])
theorem compareT_c (a b : Tm) (va vb : Value) (w : World) (ha : TmAt (fun _ => True) w a va) (hb : TmAt (fun _ => True) w b vb) :
    Calls Try.prog 23 #[tmV a va, tmV b vb] w fun e w' => e = .returned (.int .i64 (cmpT a b)) ∧ Below w.heap.size w w' := compareT_all a b va vb w ha hb
end Go.Proofs.Ytmffobadnmkpbaa
namespace Go.Proofs.Ytmffobadnmkpbaa
open Go.RowKit

def RefC (t : Tm) : Prop := ∀ (u : Tm) (va vb : Value) (w : World), TmAt (fun _ => True) w t va → TmAt (fun _ => True) w u vb →
  Calls Try.prog 24 #[tmV t va, tmV u vb] w fun e w' => e = .returned (.int .i64 (cmpT t u)) ∧ Below w.heap.size w w'

theorem kk_parts {W : World} {A B : Prop} {b1 o1 b2 o2 : Nat} {ta tb : Tm} {u v : Value} (h : (A ∧ B) ∧ CellsT W b1 o1 ta u ∧ CellsT W b2 o2 tb v) :
    A ∧ B ∧ W.cell? ⟨b1, o1, none⟩ = some (.int .i64 ta.kind) ∧ W.cell? ⟨b1, o1 + 1, none⟩ = some (.int .i64 ta.num) ∧ W.cell? ⟨b1, o1 + 2, none⟩ = some (.string ta.name) ∧ W.cell? ⟨b1, o1 + 3, none⟩ = some u ∧ W.cell? ⟨b2, o2, none⟩ = some (.int .i64 tb.kind) ∧ W.cell? ⟨b2, o2 + 1, none⟩ = some (.int .i64 tb.num) ∧ W.cell? ⟨b2, o2 + 2, none⟩ = some (.string tb.name) ∧ W.cell? ⟨b2, o2 + 3, none⟩ = some v :=
  ⟨h.1.1, h.1.2, h.2.1.c0, h.2.1.c1, h.2.1.c2, h.2.1.c3, h.2.2.c0, h.2.2.c1, h.2.2.c2, h.2.2.c3⟩
theorem toList_beq (a b : ByteArray) : (a.toList == b.toList) = decide (cmpS a b = 0) := cmpB_eq _ _

set_option maxRecDepth 100000 in
set_option maxHeartbeats 1600000 in
theorem refCompareT_step (a b : Tm) (va vb : Value) (w : World) (ha : TmAt (fun _ => True) w a va) (hb : TmAt (fun _ => True) w b vb) (hC : ∀ t ∈ a.args, RefC t) :
    Calls Try.prog 24 #[tmV a va, tmV b vb] w fun e w' => e = .returned (.int .i64 (cmpT a b)) ∧ Below w.heap.size w w' := by
  obtain ⟨ao1, cc1, rfl, hc1, hm1⟩ := ha.shape
  obtain ⟨ao2, cc2, rfl, hc2, hm2⟩ := hb.shape
  have HZ := Lib.hid (below_two w)
  have HA := Lib.hid (TsAt.of_tm ha)
  have HB := Lib.hid (TsAt.of_tm hb)
  have HC := Lib.hid hC
  clear ha hb hC
  unfold maxLen at hm1 hm2
  unfold tmV
  by_cases hk : a.kind = b.kind
  · by_cases h12 : a.kind = 1 ∨ a.kind = 2
    · rw [cmpT_num hk h12]
      have hkb : b.kind = a.kind := hk.symm
      rw [hkb]
      rcases h12 with h | h
      all_goals
        rw [h]
        go_enter Try.func24, Try.ntmps24
        go_wp2_with (first | (go_at_call 70; (with_reducible refine (order_c _ _ _).mono ?_); rintro e w' ⟨rfl, rfl⟩))
        go_ret
        exact ⟨rfl, HZ.out _ _⟩
    by_cases h3 : a.kind = 3
    · rw [cmpT_name hk h3]
      have hkb : b.kind = a.kind := hk.symm
      rw [hkb, h3]
      go_enter Try.func24, Try.ntmps24
      go_wp2_with (first | (go_at_call 71; (with_reducible refine (texts_c _ _ _).mono ?_); rintro e w' ⟨rfl, rfl⟩))
      go_ret
      exact ⟨rfl, HZ.out _ _⟩
    rw [cmpT_rest hk (fun h => h12 (.inl h)) (fun h => h12 (.inr h))]
    have hkb : b.kind = a.kind := hk.symm
    rw [hkb]
    have k1 : (a.kind == 1) = false := by simpa using fun h => h12 (.inl h)
    have k2 : (a.kind == 2) = false := by simpa using fun h => h12 (.inr h)
    have k3 : (a.kind == 3) = false := by simpa using h3
    clear hk hkb h12 h3
    have HS := Lib.hid (box_two w (.int .i64 a.kind) (.int .i64 a.num) (.string a.name) (.slice ao1 a.args.length cc1) (.int .i64 a.kind) (.int .i64 b.num) (.string b.name) (.slice ao2 b.args.length cc2))
    generalize a.kind = k at *
    by_cases hl : a.args.length = b.args.length
    · have e0 : cmpI a.args.length b.args.length = 0 := by rw [hl, cmpI_self]
      rw [e0, lex_zero]
      clear e0
      have ht := toList_beq a.name b.name
      by_cases hs : cmpS a.name b.name = 0
      · have htb : (a.name.toList == b.name.toList) = true := by rw [ht, hs]; rfl
        rw [hs, lex_zero]
        clear ht hs
        rw [← hl] at HB hc2 HS ⊢
        have HL := Lib.hid hl
        generalize a.args = la at *
        generalize b.args = lb at *
        clear hl
        go_enter Try.func24, Try.ntmps24
        go_wp2
        go_loopg [5] la.length (fun n i wr => ∃ j : Nat, j ≤ la.length ∧ i = .int .i64 j ∧ Hid (n = la.length - j) ∧ Hid (cmpL la lb = cmpL (la.drop j) (lb.drop j)) ∧ Hid (Below (w.heap.size + 2) ((w.alloc (.cells #[.int .i64 k, .int .i64 a.num, .string a.name, .slice ao1 la.length cc1] 24)).alloc (.cells #[.int .i64 k, .int .i64 b.num, .string b.name, .slice ao2 la.length cc2] 24)) wr))
        case atStart => exact ⟨0, by omega, rfl, rfl, rfl, Below.refl _ _⟩
        case round =>
          obtain ⟨j, hj, rfl, HN, HE, HW⟩ := hrel
          have HWw : Hid (Below w.heap.size w wr) := (HZ.out _ _).trans (HW.out.mono (by omega))
          obtain ⟨s0, s1, s2, s3⟩ := HS.out _ HW.out
          by_cases hlt : j < la.length
          · have hlt2 : j < lb.length := by have := HL.out; omega
            obtain ⟨b1, o1, v1, rfl, -, hcc1, hta⟩ := (HA.out.later HWw.out).get j hlt
            obtain ⟨b2, o2, v2, rfl, -, hcc2, htb2⟩ := (HB.out.later HWw.out).get j hlt2
            obtain ⟨p1, q1, rfl, _⟩ := hta.shape
            obtain ⟨p2, q2, rfl, _⟩ := htb2.shape
            have CX := Lib.hid (HC.out la[j] (List.getElem_mem hlt))
            have HD := Lib.hid (cmpL_drop la lb j hlt hlt2)
            generalize la[j] = ta at *
            generalize lb[j] = tb at *
            clear hlt2
            have HTA := Lib.hid hta
            have HTB := Lib.hid htb2
            have CC : Hid (∀ W, Below wr.heap.size wr W → Calls Try.prog 24 #[.agg #[.int .i64 ta.kind, .int .i64 ta.num, .string ta.name, .slice p1 ta.args.length q1], .agg #[.int .i64 tb.kind, .int .i64 tb.num, .string tb.name, .slice p2 tb.args.length q2]] W fun e w' => e = .returned (.int .i64 (cmpT ta tb)) ∧ Below W.heap.size W w') := fun W h => CX.out tb _ _ W (HTA.out.later h) (HTB.out.later h)
            have hb1 := hcc1.lt
            have hb2 := hcc2.lt
            have hwz := HW.out.size
            simp only [World.size_alloc] at hwz
            have KK : Hid (∀ W, Below wr.heap.size wr W → (W.cell? ⟨w.heap.size, 3, none⟩ = some (.slice (some ⟨b1, o1, none⟩) la.length cc1) ∧ W.cell? ⟨w.heap.size + 1, 3, none⟩ = some (.slice (some ⟨b2, o2, none⟩) la.length cc2)) ∧ CellsT W b1 (o1 + j * 4) ta (.slice p1 ta.args.length q1) ∧ CellsT W b2 (o2 + j * 4) tb (.slice p2 tb.args.length q2)) := fun W h =>
              ⟨⟨(h.cell (p := ⟨w.heap.size, 3, none⟩) (by show w.heap.size < _; omega)).trans s1, (h.cell (p := ⟨w.heap.size + 1, 3, none⟩) (by show w.heap.size + 1 < _; omega)).trans s3⟩, hcc1.block (h.block _ hb1), hcc2.block (h.block _ hb2)⟩
            obtain ⟨x0, x1, x2, x3⟩ := hcc1
            obtain ⟨y0, y1, y2, y3⟩ := hcc2
            clear hta htb2
            have k0 := KK.out _ (Below.refl _ _)
            generalize hz : cmpT ta tb = z at CC HD
            clear hz
            go_upto_region 16 with (fail)
            go_region_held3 (fun W => W.cell? ⟨w.heap.size, 3, none⟩ = some (.slice (some ⟨b1, o1, none⟩) la.length cc1) ∧ W.cell? ⟨w.heap.size + 1, 3, none⟩ = some (.slice (some ⟨b2, o2, none⟩) la.length cc2) ∧ W.cell? ⟨b1, o1 + j * 4, none⟩ = some (.int .i64 ta.kind) ∧ W.cell? ⟨b1, o1 + j * 4 + 1, none⟩ = some (.int .i64 ta.num) ∧ W.cell? ⟨b1, o1 + j * 4 + 2, none⟩ = some (.string ta.name) ∧ W.cell? ⟨b1, o1 + j * 4 + 3, none⟩ = some (.slice p1 ta.args.length q1) ∧ W.cell? ⟨b2, o2 + j * 4, none⟩ = some (.int .i64 tb.kind) ∧ W.cell? ⟨b2, o2 + j * 4 + 1, none⟩ = some (.int .i64 tb.num) ∧ W.cell? ⟨b2, o2 + j * 4 + 2, none⟩ = some (.string tb.name) ∧ W.cell? ⟨b2, o2 + j * 4 + 3, none⟩ = some (.slice p2 tb.args.length q2))
              ((first | exact kk_parts (KK.out _ P2.out) | (refine kk_parts (KK.out _ ?_); go_grown)))
              (first | (go_at_call 24; refine (CC.out _ ?_).mono ?_; (· go_grown); rintro e W2 ⟨rfl, bb⟩; have P2 : Hid (Below wr.heap.size wr W2) := Below.trans (B := wr.heap.size) (by go_grown) (bb.mono (by go_size))))
            clear k0
            by_cases hz : z = 0
            · subst hz
              go_wp2
              go_roundg (la.length - (j + 1))
              case measure => have := HN.out; omega
              case rel => exact ⟨j + 1, by omega, by go_num, rfl, HE.out.trans (HD.out.trans (lex_zero _)), HW.out.trans (P2.out.mono (by omega))⟩
            · have H0 := Lib.hid hz
              have hzb : (z != 0) = true := by simpa using hz
              clear hz
              go_wp2
              go_ret
              exact ⟨ret_int (HE.out.trans (HD.out.trans (lex_ne _ H0.out))).symm, HWw.out.trans (P2.out.mono HWw.out.size)⟩
          · have HX := Lib.hid (cmpL_end0 la lb j (by omega) (by have := HL.out; omega))
            obtain rfl : j = la.length := by omega
            go_wp2
            go_ret
            exact ⟨ret_int (HE.out.trans HX.out).symm, HWw.out⟩
      · have htb : (a.name.toList == b.name.toList) = false := by rw [ht]; simpa using hs
        rw [lex_ne _ hs]
        clear ht hs
        go_enter Try.func24, Try.ntmps24
        go_wp2_with (first | (go_at_call 71; (with_reducible refine (texts_c _ _ _).mono ?_); rintro e w' ⟨rfl, rfl⟩))
        go_ret
        exact ⟨rfl, HZ.out _ _⟩
    · have e0 : cmpI a.args.length b.args.length ≠ 0 := fun e => hl (by have := cmpI_zero.1 e; omega)
      rw [lex_ne _ e0, lex_ne _ e0]
      clear e0
      go_enter Try.func24, Try.ntmps24
      go_wp2_with (first | (go_at_call 70; (with_reducible refine (order_c _ _ _).mono ?_); rintro e w' ⟨rfl, rfl⟩))
      go_ret
      exact ⟨rfl, HZ.out _ _⟩
  · rw [cmpT_kind hk]
    have hkb : (a.kind != b.kind) = true := by simpa using hk
    clear hk
    go_enter Try.func24, Try.ntmps24
    go_wp2_with (first | (go_at_call 70; (with_reducible refine (order_c _ _ _).mono ?_); rintro e w' ⟨rfl, rfl⟩))
    go_ret
    exact ⟨rfl, HZ.out _ _⟩
theorem refCompareT_all (t : Tm) : RefC t := by
  induction t using Tm.ind with
  | h4 s l ih => exact fun u va vb w ha hb => refCompareT_step _ u va vb w ha hb ih
  | _ => exact fun u va vb w ha hb => refCompareT_step _ u va vb w ha hb (by simp [Tm.args])
theorem refCompareT_c (a b : Tm) (va vb : Value) (w : World) (ha : TmAt (fun _ => True) w a va) (hb : TmAt (fun _ => True) w b vb) :
    Calls Try.prog 24 #[tmV a va, tmV b vb] w fun e w' => e = .returned (.int .i64 (cmpT a b)) ∧ Below w.heap.size w w' := refCompareT_all a b va vb w ha hb
end Go.Proofs.Ytmffobadnmkpbaa
namespace Go.Proofs.Ytmffobadnmkpbaa
open Go.RowKit

/-- what is asked of the terms that a text tells -/
def Fine (t : Tm) : Prop := t.ok ∧ t.size ≤ 2001
def RetSome (w : World) (e : Ending) (w' : World) : Prop := ∃ v l, e = .returned v ∧ TsAt (fun _ => True) w' v l ∧ (∀ t ∈ l, Fine t) ∧ l.length ≤ 40 ∧ Below w.heap.size w w'

/-- the list that grows, while the sentences stay where they are -/
structure SmW (g0 H : Nat) (w W1 : World) (l : List Tm) (v : Value) (wr : World) (k : Nat) (L : List (Tm × Value)) : Prop where
  own : wr.ownsRow g0 24 4 v L.length (tmCs L)
  len : L.length = k
  fst : L.map Prod.fst = l.take k
  tms : ∀ x ∈ L, TmAt (fun b => b < H ∧ b ≠ g0) W1 x.1 x.2
  agr : ∀ b, b < H → b ≠ g0 → wr.heap[b]? = W1.heap[b]?
  ne : ∀ g, v.ownBlock = some g → g = g0 ∨ H ≤ g
  bel : Below g0 w wr
  size : H ≤ wr.heap.size
theorem SmW.ret {g0 H : Nat} {w W1 : World} {l : List Tm} {v : Value} {wr : World} {k : Nat} {L : List (Tm × Value)} (h : SmW g0 H w W1 l v wr k L) : TsAt (fun _ => True) wr v (l.take k) := by
  rw [← h.fst]
  exact TsAt.of_sl (SlAt.of_own h.own) (fun _ _ => trivial) (fun x hx => (h.tms x hx).mono fun b _ hb => ⟨trivial, h.agr b hb.1 hb.2⟩)
theorem SmW.push {g0 H : Nat} {w W1 : World} {l : List Tm} {v : Value} {wr : World} {k : Nat} {L : List (Tm × Value)} (h : SmW g0 H w W1 l v wr k L) (hk : k < l.length) {a : Value} (ht : TmAt (fun b => b < H ∧ b ≠ g0) W1 l[k] a)
    {g cap : Nat} {w' : World} (ho : w'.ownsRow g0 24 4 (.slice (some ⟨g, 0, none⟩) (L.length + 1) cap) (L.length + 1) (tmCs L ++ [.int .i64 l[k].kind, .int .i64 l[k].num, .string l[k].name, a])) (hb : Below g0 wr w') (hkk : KeepsBut wr w' v) (hl : v.ownBlock = some g ∨ wr.heap.size ≤ g) :
    SmW g0 H w W1 l (.slice (some ⟨g, 0, none⟩) (L.length + 1) cap) w' (k + 1) (L ++ [(l[k], a)]) := by
  refine ⟨?_, by simp [h.len], ?_, ?_, ?_, ?_, h.bel.trans hb, Nat.le_trans h.size hb.size⟩
  · rw [tmCs_snoc]; simpa using ho
  · rw [List.map_append, h.fst, List.take_succ_eq_append_getElem hk]; rfl
  · intro x hx
    rcases List.mem_append.1 hx with hx | hx
    · exact h.tms x hx
    · simp only [List.mem_singleton] at hx; subst hx; exact ht
  · intro b h1 h2
    rw [← h.agr b h1 h2]
    refine hkk b (Nat.lt_of_lt_of_le h1 h.size) (fun he => ?_)
    rcases h.ne b he with e | e <;> omega
  · intro b he
    have e : g = b := by simpa [Value.ownBlock] using he
    subst e
    rcases hl with hl | hl
    · exact h.ne g hl
    · exact .inr (Nat.le_trans h.size hl)
/-- the sentence at a place, where it lies, apart from the empty row -/
theorem SnAt.apart {w0 W1 : World} {T : TypeId} {ao : Option Addr} {n cap : Nat} {l : List Tm} (h : SnAt (w0.heap.size + 1) W1 (.slice ao n cap) l) (hb : Below (w0.heap.size + 1) (w0.alloc (.cells #[] T)) W1) (i : Nat) (hi : i < l.length) :
    ∃ b off a, ao = some ⟨b, off, none⟩ ∧ b < W1.heap.size ∧ b ≠ w0.heap.size ∧ CellsT W1 b (off + i * 5) l[i] a ∧ TmAt (fun b => b < W1.heap.size ∧ b ≠ w0.heap.size) W1 l[i] a := by
  obtain ⟨b, off, a, an, nn, cn, e, hlt, hc, _, ht⟩ := h.get i hi
  refine ⟨b, off, a, e, hlt, ?_, hc, ht.mono fun b' h1 h2 => ⟨⟨h1, by omega⟩, rfl⟩⟩
  rintro rfl
  have h0 := hc.c0
  have e0 : W1.cell? ⟨w0.heap.size, off + i * 5, none⟩ = (w0.alloc (.cells #[] T)).cell? ⟨w0.heap.size, off + i * 5, none⟩ := hb.cell (p := ⟨w0.heap.size, off + i * 5, none⟩) (by show w0.heap.size < _; omega)
  rw [e0] at h0
  simp at h0
end Go.Proofs.Ytmffobadnmkpbaa
namespace Go.Proofs.Ytmffobadnmkpbaa
open Go.RowKit

theorem own_made0 (w : World) (e : TypeId) : (w.alloc (.cells #[] e)).ownsRow w.heap.size e 4 (.slice (some ⟨w.heap.size, 0, none⟩) 0 0) 0 [] :=
  World.ownsRow_made (base := w.heap.size) (size := 4) (e := e) w #[] 0 (by simp) (by decide) rfl
set_option maxRecDepth 100000 in
set_option maxHeartbeats 1600000 in
theorem some_c (s : ByteArray) (w : World) : Calls Try.prog 22 #[.string s] w (RetSome w) := by
  obtain ⟨i0, hi, hz0, hz1, hz2⟩ := info_parts Try.infoTerm
  have HB0 : Hid (∀ T, Below w.heap.size w (w.alloc (.cells #[] T))) := fun T => (Below.refl _ _).alloc (Nat.le_refl _) _
  by_cases hs : 2048 < s.size
  · go_enter Try.func22, Try.ntmps22
    go_wp2
    go_ret
    exact ⟨_, [], rfl, ⟨_, 0, rfl, Nat.le_refl _, by simp [maxLen], (fun h => by cases h), fun h => by simp at h⟩, by simp, by simp, HB0.out _⟩
  have CR := Lib.hid (readAll_c s (by omega) (w.alloc (.cells #[] 24)))
  go_enter Try.func22, Try.ntmps22
  go_wp2_with (first | (go_at_call 65; ((with_reducible refine CR.out.mono ?_); rintro e W1 ⟨v, pl, y, l, rfl, sn, hl, hll, b1⟩; obtain ⟨va, vc, rfl, _⟩ := sn.shape; have SN := Lib.hid sn; have HL := Lib.hid hl; have B1 := Lib.hid b1; clear sn hl b1)))
  have hsz : w.heap.size + 1 ≤ W1.heap.size := by have := B1.out.size; simpa using this
  have B1' : Hid (Below (w.heap.size + 1) (w.alloc (.cells #[] 24)) W1) := by show Below _ _ _; have := B1.out; simpa using this
  have SN' : Hid (SnAt (w.heap.size + 1) W1 (.slice va l.length vc) l) := by show SnAt _ _ _ _; have := SN.out; simpa using this
  go_loopg [3, 7] l.length (fun n o i wr => ∃ (k : Nat) (L : List (Tm × Value)), k ≤ l.length ∧ k ≤ 40 ∧ i = .int .i64 k ∧ Hid (n = l.length - k) ∧ Hid (SmW w.heap.size W1.heap.size w W1 l o wr k L) ∧ L.length = k)
  case atStart =>
    refine ⟨0, [], by omega, by omega, rfl, rfl, ⟨?_, rfl, rfl, by simp, fun _ _ _ => rfl, ?_, ?_, Nat.le_refl _⟩, rfl⟩
    · exact own_below (own_made0 w _) B1.out
    · intro g hg; left; simpa [Value.ownBlock] using hg.symm
    · exact (HB0.out _).trans (B1'.out.mono (by omega))
  case round =>
    obtain ⟨k, L, hk, hk4, rfl, HN, HW, hLk⟩ := hrel
    by_cases hlt : k < l.length
    · by_cases h40 : k < 40
      · obtain ⟨b, off, a, rfl, hlb, hne, hcc, hta⟩ := SN'.out.apart B1'.out k hlt
        obtain ⟨p1, q1, rfl, _⟩ := hta.shape
        have hsz2 := HW.out.size
        have hcw := hcc.block (HW.out.agr b hlb hne)
        have HT := Lib.hid hta
        have HP : Hid (∀ (g cap : Nat) (w' : World), w'.ownsRow w.heap.size 24 4 (.slice (some ⟨g, 0, none⟩) (L.length + 1) cap) (L.length + 1) (tmCs L ++ (#[.int .i64 l[k].kind, .int .i64 l[k].num, .string l[k].name, .slice p1 l[k].args.length q1] : Array Value).toList) → Below w.heap.size wr w' → KeepsBut wr w' u3 → (u3.ownBlock = some g ∨ wr.heap.size ≤ g) → SmW w.heap.size W1.heap.size w W1 l (.slice (some ⟨g, 0, none⟩) (L.length + 1) cap) w' (k + 1) (L ++ [(l[k], .slice p1 l[k].args.length q1)])) := fun g cap w' h1 h2 h3 h4 => HW.out.push hlt HT.out h1 h2 h3 h4
        obtain ⟨x0, x1, x2, x3⟩ := hcw
        have hbw : b < wr.heap.size := by omega
        clear hta hcc
        generalize l[k] = t at *
        obtain ⟨oa, oc, rfl, _⟩ := (SlAt.of_own HW.out.own).shape
        have hb0 : w.heap.size ≤ wr.heap.size := by omega
        go_wp2_with (first
          | (at_builtin; refine wpList_appendX rfl (.tmp 29) (.tmp 35) 22 rfl w.heap.size 24 i0 (.agg #[.int .i64 0, .int .i64 0, .string ByteArray.empty, .slice none 0 0]) 4 56 Try.underlying22 hi hz0 hz1 hz2 rfl (by decide) _ L.length (tmCs L) rfl HW.out.own _ _ rfl rfl rfl (one4r rfl rfl rfl rfl) ⟨by omega, by omega⟩ hb0 ?_; intro g cap W5 ho5 hb5 hk5 hl5; have R5 := Lib.hid (HP.out g cap W5 ho5 hb5 hk5 hl5); clear ho5 hb5 hk5 hl5))
        go_roundg (l.length - (k + 1))
        case measure => have := HN.out; omega
        case rel =>
          rw [hLk] at R5
          exact ⟨k + 1, _, by omega, by omega, by go_num, rfl, R5, by simp [hLk]⟩
      · go_wp2
        go_ret
        exact ⟨_, _, rfl, HW.out.ret, fun t ht => HL.out t (List.mem_of_mem_take ht), by simp; omega, HW.out.bel⟩
    · go_wp2
      go_ret
      exact ⟨_, _, rfl, HW.out.ret, fun t ht => HL.out t (List.mem_of_mem_take ht), by simp; omega, HW.out.bel⟩
end Go.Proofs.Ytmffobadnmkpbaa
namespace Go.Proofs.Ytmffobadnmkpbaa
open Go.RowKit

/-- what one tells: a term, and whether the text tells it -/
def RetOne7 (w : World) (e : Ending) (w' : World) : Prop := ∃ t ao cap b, e = .returned (.tuple #[.agg #[.int .i64 t.kind, .int .i64 t.num, .string t.name, .slice ao t.args.length cap], .bool b]) ∧ TmAt (fun b => w.heap.size ≤ b) w' t (.slice ao t.args.length cap) ∧ (b = true → Fine t) ∧ Below w.heap.size w w'
theorem heap_set4 (h : Nat) (W : World) (a b c d : Value) {k : Nat} (hk : k ≠ h) : ((((W.setCell ⟨h, 0, none⟩ a).setCell ⟨h, 1, none⟩ b).setCell ⟨h, 2, none⟩ c).setCell ⟨h, 3, none⟩ d).heap[k]? = W.heap[k]? := by
  rw [Below.heap_setCell _ _ _ _ hk, Below.heap_setCell _ _ _ _ hk, Below.heap_setCell _ _ _ _ hk, Below.heap_setCell _ _ _ _ hk]
theorem box_set4 (w W : World) {x0 x1 x2 x3 a b c d : Value} {T : TypeId} (h : Below (w.heap.size + 1) (w.alloc (.cells #[x0, x1, x2, x3] T)) W) : Below w.heap.size w ((((W.setCell ⟨w.heap.size, 0, none⟩ a).setCell ⟨w.heap.size, 1, none⟩ b).setCell ⟨w.heap.size, 2, none⟩ c).setCell ⟨w.heap.size, 3, none⟩ d) :=
  ((((below_one' h).setCell (p := ⟨w.heap.size, 0, none⟩) (Nat.le_refl _) _).setCell (p := ⟨w.heap.size, 1, none⟩) (Nat.le_refl _) _).setCell (p := ⟨w.heap.size, 2, none⟩) (Nat.le_refl _) _).setCell (p := ⟨w.heap.size, 3, none⟩) (Nat.le_refl _) _
where below_one' {w W : World} {o : Obj} (h : Below (w.heap.size + 1) (w.alloc o) W) : Below w.heap.size w W := ((Below.refl w.heap.size w).alloc (Nat.le_refl _) o).trans (h.mono (by omega))
set_option maxRecDepth 100000 in
set_option maxHeartbeats 1600000 in
theorem one7_c (s : ByteArray) (w : World) : Calls Try.prog 14 #[.string s] w (RetOne7 w) := by
  have HZ : Hid (∀ T, Below w.heap.size w (w.alloc (.cells #[.int .i64 0, .int .i64 0, .string ⟨#[]⟩, .slice none 0 0] T))) := fun T => (Below.refl _ _).alloc (Nat.le_refl _) _
  by_cases hs : 1024 < s.size
  · go_enter Try.func14, Try.ntmps14
    go_wp2
    refine bodyPost_ret (v := .tuple #[.agg #[.int .i64 0, .int .i64 0, .string ⟨#[]⟩, .slice none 0 0], .bool false]) (by simp [results, Try.results14, go_sem]; try rfl) rfl ?_
    exact ⟨.nil, none, 0, false, rfl, .leaf rfl, (fun h => by cases h), HZ.out _⟩
  have CR := Lib.hid (fun T => one5_c s (by omega) (w.alloc (.cells #[.int .i64 0, .int .i64 0, .string ⟨#[]⟩, .slice none 0 0] T)))
  go_enter Try.func14, Try.ntmps14
  go_wp2_with (first | (go_at_call 60; ((with_reducible refine (CR.out _).mono ?_); rintro e W1 ⟨t, a, an, nn, cn, pl, x, rfl, ht, hok, b1⟩; obtain ⟨p0, q0, rfl, _⟩ := ht.shape; have HT := Lib.hid ht; have HO := Lib.hid hok; have B1 := Lib.hid b1; have hbx := (BoxL.mk' w #[.int .i64 0, .int .i64 0, .string ⟨#[]⟩, .slice none 0 0] 24).below b1 (by simp); obtain ⟨x0, f0⟩ := hbx.get 0 rfl; obtain ⟨x1, f1⟩ := hbx.get 1 rfl; obtain ⟨x2, f2⟩ := hbx.get 2 rfl; obtain ⟨x3, f3⟩ := hbx.get 3 rfl; have hsz := hbx.lt (by simp); have HBX := Lib.hid hbx; clear ht hok b1 hbx)))
  refine bodyPost_ret (v := .tuple #[.agg #[.int .i64 t.kind, .int .i64 t.num, .string t.name, .slice p0 t.args.length q0], .bool (x == 0)]) ?_ rfl ?_
  · have h4 := (((HBX.out.set 0 (by simp) (.int .i64 t.kind)).set 1 (by simp) (.int .i64 t.num)).set 2 (by simp) (.string t.name)).set 3 (by simp) (.slice p0 t.args.length q0)
    have h5 := h4.block (Below.heap_alloc _ (.cells #[.int .i64 t.kind, .int .i64 t.num, .string t.name, .slice p0 t.args.length q0, .slice an nn cn] 69) w.heap.size (h4.lt (by simp)))
    obtain ⟨z0, _⟩ := h5.get 0 rfl
    obtain ⟨z1, _⟩ := h5.get 1 rfl
    obtain ⟨z2, _⟩ := h5.get 2 rfl
    obtain ⟨z3, _⟩ := h5.get 3 rfl
    clear h5 h4 x0 x1 x2 x3 f0 f1 f2 f3
    simp [results, Try.results14, go_sem, z0, z1, z2, z3]
    try rfl
  · refine ⟨t, p0, q0, x == 0, rfl, HT.out.mono fun b hb hp => ?_, fun h => HO.out (by simpa using h), ?_⟩
    · have hp' : w.heap.size + 1 ≤ b := by simpa using hp
      refine ⟨by omega, ?_⟩
      rw [Below.heap_alloc _ _ b (by simpa using hb), heap_set4 _ _ _ _ _ _ (by omega)]
    · have hb1 := B1.out
      simp only [World.size_alloc] at hb1
      exact (box_set4 w _ hb1).alloc (by simp; omega) _
end Go.Proofs.Ytmffobadnmkpbaa
