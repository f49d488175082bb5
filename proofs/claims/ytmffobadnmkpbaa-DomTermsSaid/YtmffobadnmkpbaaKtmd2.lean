/-
  HOW GREAT, HOW DEEP A TERM IS, WHICH VARIABLES IT HAS: in plain Lean. Over any program.
  A LIST OF TERMS OF THE CALL'S OWN THAT GROWS: by one term, by a list of terms; one term stored into it. Over any program.
  term.Size, term.Depth, and the document's, walked.
  LISTS OF INTEGERS in memory; are two the same; is one in a list; walked.
  term.Vars: its closure, walked.
  term.Vars: its closure, one step of its recursion, walked.
-/
import Derived.Test.YtmffobadnmkpbaaKpars1
import Derived.Test.YtmffobadnmkpbaaKpars2
import Derived.Maps.AppendAt
import Derived.Test.YtmffobadnmkpbaaKtmd1
import Derived.Deep.LoopGhost
import Derived.Handy
import Derived.Test.YtmffobadnmkpbaaKlib1
import Derived.BigQuiet
namespace Go.Proofs.Ytmffobadnmkpbaa
open Go.RowKit

mutual
def Tm.depth : Tm → Nat
  | .nil => 1
  | .var _ => 1
  | .int _ => 1
  | .atom _ => 1
  | .cmp _ l => Tm.depths l + 1
def Tm.depths : List Tm → Nat
  | [] => 0
  | t :: l => max t.depth (Tm.depths l)
end
theorem Tm.depths_append (a b : List Tm) : Tm.depths (a ++ b) = max (Tm.depths a) (Tm.depths b) := by
  induction a with
  | nil => simp [Tm.depths]
  | cons t l ih => simp only [List.cons_append, Tm.depths, ih]; omega
theorem Tm.depth_eq (t : Tm) : t.depth = Tm.depths t.args + 1 := by cases t <;> simp [Tm.depth, Tm.depths, Tm.args]
theorem Tm.size_eq (t : Tm) : t.size = 1 + Tm.sizes t.args := by cases t <;> simp [Tm.size, Tm.sizes, Tm.args]
theorem Tm.depth_le (t : Tm) : t.depth ≤ t.size := by
  induction t using Tm.ind with
  | h4 s l ih =>
    simp only [Tm.depth, Tm.size]
    have : Tm.depths l ≤ Tm.sizes l := by
      clear s
      induction l with
      | nil => simp [Tm.depths]
      | cons a l ih2 =>
        have h1 := ih a (by simp)
        have h2 := ih2 fun t ht => ih t (by simp [ht])
        simp only [Tm.depths, Tm.sizes]; omega
    omega
  | _ => simp [Tm.depth, Tm.size]
theorem Tm.sizes_take (l : List Tm) (k : Nat) (h : k < l.length) : Tm.sizes (l.take (k + 1)) = Tm.sizes (l.take k) + l[k].size := by
  rw [List.take_succ_eq_append_getElem h, Tm.sizes_append]; simp [Tm.sizes]
theorem Tm.depths_take (l : List Tm) (k : Nat) (h : k < l.length) : Tm.depths (l.take (k + 1)) = max (Tm.depths (l.take k)) l[k].depth := by
  rw [List.take_succ_eq_append_getElem h, Tm.depths_append]; simp [Tm.depths]
theorem Tm.sizes_take_le (l : List Tm) (k : Nat) : Tm.sizes (l.take k) ≤ Tm.sizes l := by
  have : Tm.sizes l = Tm.sizes (l.take k) + Tm.sizes (l.drop k) := by rw [← Tm.sizes_append, List.take_append_drop]
  omega

mutual
/-- the variables, in their order, again and again -/
def Tm.vs : Tm → List Int
  | .nil => []
  | .var n => [(n : Int)]
  | .int _ => []
  | .atom _ => []
  | .cmp _ l => Tm.vss l
def Tm.vss : List Tm → List Int
  | [] => []
  | t :: l => t.vs ++ Tm.vss l
end
theorem Tm.vss_append (a b : List Tm) : Tm.vss (a ++ b) = Tm.vss a ++ Tm.vss b := by
  induction a with
  | nil => simp [Tm.vss]
  | cons t l ih => simp [Tm.vss, ih]
theorem Tm.vss_take (l : List Tm) (k : Nat) (h : k < l.length) : Tm.vss (l.take (k + 1)) = Tm.vss (l.take k) ++ l[k].vs := by
  rw [List.take_succ_eq_append_getElem h, Tm.vss_append]; simp [Tm.vss]
theorem Tm.vs_len (t : Tm) : t.vs.length ≤ t.size := by
  induction t using Tm.ind with
  | h4 s l ih =>
    simp only [Tm.vs, Tm.size]
    have : (Tm.vss l).length ≤ Tm.sizes l := by
      clear s
      induction l with
      | nil => simp [Tm.vss]
      | cons a l ih2 =>
        have h1 := ih a (by simp)
        have h2 := ih2 fun t ht => ih t (by simp [ht])
        simp only [Tm.vss, Tm.sizes, List.length_append]; omega
    omega
  | _ => simp [Tm.vs, Tm.size]
theorem Tm.vss_len (l : List Tm) : (Tm.vss l).length ≤ Tm.sizes l := by
  induction l with
  | nil => simp [Tm.vss]
  | cons a l ih => have := a.vs_len; simp only [Tm.vss, Tm.sizes, List.length_append]; omega
/-- put at the end what is not there -/
def addV (o : List Int) (x : Int) : List Int := if x ∈ o then o else o ++ [x]
def addVs (o l : List Int) : List Int := l.foldl addV o
theorem addVs_nil (o : List Int) : addVs o [] = o := rfl
theorem addVs_cons (o : List Int) (x : Int) (l : List Int) : addVs o (x :: l) = addVs (addV o x) l := rfl
theorem addVs_append (o a b : List Int) : addVs o (a ++ b) = addVs (addVs o a) b := by simp [addVs, List.foldl_append]
theorem mem_addV {o : List Int} {x y : Int} : y ∈ addV o x ↔ y ∈ o ∨ y = x := by
  unfold addV; split
  · constructor
    · exact .inl
    · rintro (h | rfl) <;> assumption
  · simp
theorem mem_addVs {o l : List Int} {y : Int} : y ∈ addVs o l ↔ y ∈ o ∨ y ∈ l := by
  induction l generalizing o with
  | nil => simp [addVs_nil]
  | cons x l ih => rw [addVs_cons, ih, mem_addV]; simp [or_assoc]
theorem addV_mem {o : List Int} {x : Int} (h : x ∈ o) : addV o x = o := by simp [addV, h]
theorem addV_new {o : List Int} {x : Int} (h : x ∉ o) : addV o x = o ++ [x] := by simp [addV, h]
/-- adding what is left of a list once its doubles are gone adds the list -/
theorem addVs_dedup (o l : List Int) : addVs o (addVs [] l) = addVs o l := by
  have key : ∀ l p : List Int, (∀ x ∈ p, x ∈ o ∨ x ∈ p) → addVs o (addVs p l) = addVs (addVs o p) l := by
    intro l
    induction l with
    | nil => intro p _; rfl
    | cons x l ih =>
      intro p _
      rw [addVs_cons, addVs_cons, ih _ (fun y hy => .inr hy)]
      congr 1
      by_cases h : x ∈ p
      · rw [addV_mem h, addV_mem (mem_addVs.2 (.inr h))]
      · rw [addV_new h, addVs_append]; rfl
  have := key l [] (by simp)
  simpa [addVs_nil] using this
theorem addVs_len (o l : List Int) : (addVs o l).length ≤ o.length + l.length := by
  induction l generalizing o with
  | nil => simp [addVs_nil]
  | cons x l ih =>
    have := ih (addV o x)
    have h : (addV o x).length ≤ o.length + 1 := by unfold addV; split <;> simp
    rw [addVs_cons]; simp only [List.length_cons]; omega
def Tm.vars (t : Tm) : List Int := addVs [] t.vs
theorem Tm.vars_len (t : Tm) : t.vars.length ≤ t.size := by
  have := addVs_len [] t.vs; have := t.vs_len; simp only [Tm.vars, List.length_nil] at *; omega
theorem Tm.ok_var {t : Tm} (h : t.ok) (hk : t.kind = 1) : ∃ n, t = .var n ∧ n < 5000 := by
  cases h <;> simp [Tm.kind] at hk
  exact ⟨_, rfl, ‹_›⟩
theorem Tm.ok_args {t : Tm} (h : t.ok) : ∀ u ∈ t.args, u.ok := by
  cases h <;> simp [Tm.args]
  assumption
theorem Tm.args_kind {t : Tm} (h : t.kind ≠ 4) : t.args = [] := by cases t <;> simp [Tm.kind] at h <;> rfl
theorem Tm.args_size {t u : Tm} (h : u ∈ t.args) : u.size < t.size := by
  have := Tm.sizes_mem h; rw [t.size_eq]; omega
theorem Tm.vs_bound {t : Tm} (h : t.ok) : ∀ x ∈ t.vs, 0 ≤ x ∧ x < 5000 := by
  induction t using Tm.ind with
  | h1 n => cases h; intro x hx; simp [Tm.vs] at hx; omega
  | h4 s l ih =>
    have ha := Tm.ok_args h
    simp only [Tm.args] at ha
    intro x hx
    simp only [Tm.vs] at hx
    clear h s
    induction l with
    | nil => simp [Tm.vss] at hx
    | cons a l ih2 =>
      simp only [Tm.vss, List.mem_append] at hx
      rcases hx with hx | hx
      · exact ih a (by simp) (ha a (by simp)) x hx
      · exact ih2 (fun t ht => ih t (by simp [ht])) (fun t ht => ha t (by simp [ht])) hx
  | _ => simp [Tm.vs]
end Go.Proofs.Ytmffobadnmkpbaa
namespace Go.Proofs.Ytmffobadnmkpbaa
open Go.RowKit

/-- 'append(out, s...)', out the call's own, s whatever slice: telling where it lies -/
theorem wpList_append_slX {P : Program} {w0 : World} {ops : Array Oper} {rest : List Oper} {o : Oper} {a : Act} {Q : Exit → Act → World → Prop} (hgd : o.guard = none) (s x : Operand) (t : TypeId)
    (ho : o.op = .call { callee := .builtin .append, args := #[s, x], argTypes := #[t, t] })
    (base : Nat) (e : TypeId) (i : TypeInfo) (z : Value) (size bytes : Nat) (ht : P.underlying t = some (.slice e)) (hi : P.info? e = some i) (hz : i.zero = some z)
    (hsize : i.size = size) (hby : i.bytes = bytes) (hzs : z.cells.size = size) (hsz : 0 < size)
    (v : Value) (n : Nat) (xs : List Value) (hs : a.eval s = v) (hown : w0.ownsRow base e size v n xs)
    (vx : Value) (m : Nat) (ys : List Value) (hx : a.eval x = vx) (hsl : SlAt w0 size vx m ys) (h1 : ∀ u ∈ ys, u.oneCell' = true)
    (hbytes : (n + m) * bytes ≤ 140737488355328 ∧ n + m ≤ 140737488355328) (hbase : base ≤ w0.heap.size)
    (h : ∀ v' w', w'.ownsRow base e size v' (n + m) (xs ++ ys) → Below base w0 w' → KeepsBut w0 w' v → (v'.ownBlock = v.ownBlock ∨ v'.ownBlock = some w0.heap.size) → wpList P ops Q rest (a.put o.dst v') w') :
    wpList P ops Q (o :: rest) a w0 := by
  obtain ⟨hl, ao, cap, rfl, h2, h3, h5, h4⟩ := hsl
  cases ao with
  | none =>
    obtain rfl := h5 rfl
    obtain rfl : m = 0 := by omega
    obtain rfl : ys = [] := List.eq_nil_of_length_eq_zero (by omega)
    refine wpList_append_own_none hgd s x t ho base e i size ht hi v n xs hs hown hx ?_
    exact h v w0 (by simpa using hown) (Below.refl _ _) (fun _ _ _ => rfl) (.inl rfl)
  | some ad =>
    refine wpList_append_own_at w0 hgd s x t ho base e i z size bytes ht hi hz hsize hby hzs hsz v n xs hs hown ad m cap ys hx hl (fun j u hj => ?_) h1 (by unfold maxLen; omega) hbytes.1 hbase (fun v' w' r1 r2 _ r5 => h v' w' r1 ?_ (fun b hb hne => r2.block b hb (fun he => hne he.symm)) r5)
    · have hj' : j < m * size := by rw [← hl]; exact (List.getElem?_eq_some_iff.1 hj).1
      obtain ⟨b, off, he, _, hc⟩ := h4 (by omega)
      injection he with he; subst he
      rw [Go.WideShapes.add_plain, hc j hj', hj]
    · exact (Below.refl base w0).grown r2 hbase (ownBlock_ge hown)

/-- a list of terms in a row of the call's own; the terms' arguments lie elsewhere, in blocks that are such -/
structure OwnTs (p : Nat → Prop) (base : Nat) (w : World) (v : Value) (L : List (Tm × Value)) : Prop where
  own : w.ownsRow base 24 4 v L.length (tmCs L)
  tms : ∀ x ∈ L, TmAt (fun b => v.ownBlock ≠ some b ∧ p b) w x.1 x.2
theorem OwnTs.below {p : Nat → Prop} {base : Nat} {w w' : World} {v : Value} {L : List (Tm × Value)} (h : OwnTs p base w v L) (hb : Below w.heap.size w w') : OwnTs p base w' v L :=
  ⟨own_below h.own hb, fun x hx => (h.tms x hx).grow hb fun _ _ h => h⟩
theorem OwnTs.weaken {p p' : Nat → Prop} {base base' : Nat} {w : World} {v : Value} {L : List (Tm × Value)} (h : OwnTs p base w v L) (hb : base' ≤ base) (hp : ∀ b, p b → p' b) : OwnTs p' base' w v L := by
  refine ⟨⟨h.own.1, ?_⟩, fun x hx => (h.tms x hx).mono fun b _ hb' => ⟨⟨hb'.1, hp b hb'.2⟩, rfl⟩⟩
  rcases h.own.2 with hn | ⟨g, cap, cur, e, hg, rest⟩
  · exact .inl hn
  · exact .inr ⟨g, cap, cur, e, Nat.le_trans hb hg, rest⟩
theorem OwnTs.at {p : Nat → Prop} {base : Nat} {w : World} {v : Value} {L : List (Tm × Value)} (h : OwnTs p base w v L) : TsAt (fun _ => True) w v (L.map Prod.fst) :=
  TsAt.of_sl (SlAt.of_own h.own) (fun _ _ => trivial) (fun x hx => (h.tms x hx).any)
theorem OwnTs.shape {p : Nat → Prop} {base : Nat} {w : World} {v : Value} {L : List (Tm × Value)} (h : OwnTs p base w v L) : ∃ ao cap, v = .slice ao L.length cap ∧ L.length ≤ cap ∧ cap ≤ maxLen := (SlAt.of_own h.own).shape
/-- terms stay where a row that is none of theirs grows -/
theorem TmAt.keptBut {p : Nat → Prop} {w w' : World} {v v' : Value} {t : Tm} {a : Value} (h : TmAt (fun b => v.ownBlock ≠ some b ∧ p b) w t a) (hk : KeepsBut w w' v) (hp : ∀ g, v'.ownBlock = some g → v.ownBlock = some g ∨ w.heap.size ≤ g) : TmAt (fun b => v'.ownBlock ≠ some b ∧ p b) w' t a :=
  h.mono fun b hb hp' => ⟨⟨fun he => by rcases hp b he with e | e; (· exact hp'.1 e); (· omega), hp'.2⟩, hk b hb hp'.1⟩
theorem lies_or {w : World} {v v' : Value} (h : v'.ownBlock = v.ownBlock ∨ v'.ownBlock = some w.heap.size) : ∀ g, v'.ownBlock = some g → v.ownBlock = some g ∨ w.heap.size ≤ g := fun g hg => by
  rcases h with e | e
  · exact .inl (e ▸ hg)
  · rw [e] at hg; simp at hg; exact .inr (by omega)
theorem lies_at {w : World} {v : Value} {g n cap : Nat} (h : v.ownBlock = some g ∨ w.heap.size ≤ g) : ∀ k, (Value.slice (some ⟨g, 0, none⟩) n cap).ownBlock = some k → v.ownBlock = some k ∨ w.heap.size ≤ k := fun k hk => by
  have e : g = k := by simpa [Value.ownBlock] using hk
  subst e; exact h
theorem OwnTs.grow {p : Nat → Prop} {base : Nat} {w w' : World} {v v' : Value} {L X : List (Tm × Value)} (h : OwnTs p base w v L) (hX : ∀ x ∈ X, TmAt (fun b => v.ownBlock ≠ some b ∧ p b) w x.1 x.2)
    (ho : w'.ownsRow base 24 4 v' (L.length + X.length) (tmCs L ++ tmCs X)) (hk : KeepsBut w w' v) (hp : ∀ g, v'.ownBlock = some g → v.ownBlock = some g ∨ w.heap.size ≤ g) : OwnTs p base w' v' (L ++ X) := by
  refine ⟨by rw [tmCs_append]; simpa using ho, fun x hx => ?_⟩
  rcases List.mem_append.1 hx with hx | hx
  · exact (h.tms x hx).keptBut hk hp
  · exact (hX x hx).keptBut hk hp
/-- a term pushed by 'append' at one element laid just before -/
theorem OwnTs.push {p : Nat → Prop} {base : Nat} {w w' : World} {v : Value} {L : List (Tm × Value)} {t : Tm} {a : Value} {g cap : Nat} (h : OwnTs p base w v L) (ht : TmAt (fun b => v.ownBlock ≠ some b ∧ p b) w t a)
    (ho : w'.ownsRow base 24 4 (.slice (some ⟨g, 0, none⟩) (L.length + 1) cap) (L.length + 1) (tmCs L ++ (#[.int .i64 t.kind, .int .i64 t.num, .string t.name, a] : Array Value).toList)) (hk : KeepsBut w w' v) (hp : v.ownBlock = some g ∨ w.heap.size ≤ g) : OwnTs p base w' (.slice (some ⟨g, 0, none⟩) (L.length + 1) cap) (L ++ [(t, a)]) :=
  h.grow (X := [(t, a)]) (fun x hx => by simp only [List.mem_singleton] at hx; subst hx; exact ht) (by simpa [tmCs, tmC] using ho) hk (lies_at hp)
theorem OwnTs.made (p : Nat → Prop) (w : World) : OwnTs p w.heap.size (w.alloc (.cells #[] 24)) (.slice (some ⟨w.heap.size, 0, none⟩) 0 0) [] :=
  ⟨World.ownsRow_made (base := w.heap.size) (size := 4) (e := 24) w #[] 0 (by simp) (by decide) rfl, by simp⟩
theorem OwnTs.none (p : Nat → Prop) (base : Nat) (w : World) : OwnTs p base w (.slice Option.none 0 0) [] := ⟨⟨rfl, .inl ⟨rfl, rfl⟩⟩, by simp⟩
/-- what returns such a list of terms, in new memory -/
def RetOwnT (p : Nat → Prop) (G : List Tm) (w : World) (e : Ending) (w' : World) : Prop := ∃ ao cap Lv, e = .returned (.slice ao Lv.length cap) ∧ OwnTs (fun b => (p b ∧ b < w.heap.size) ∨ w.heap.size ≤ b) w.heap.size w' (.slice ao Lv.length cap) Lv ∧ Lv.map Prod.fst = G ∧ Below w.heap.size w w'
/-- a store into the row itself -/
theorem own_store {w : World} {base : Nat} {e : TypeId} {size g n cap : Nat} {xs : List Value} (h : w.ownsRow base e size (.slice (some ⟨g, 0, none⟩) n cap) n xs) (i : Nat) (_hi : i < n * size) (u : Value) :
    (w.setCell ⟨g, i, none⟩ u).ownsRow base e size (.slice (some ⟨g, 0, none⟩) n cap) n (xs.set i u) := by
  refine ⟨by rw [List.length_set]; exact h.1, .inr ?_⟩
  rcases h.2 with ⟨he, _⟩ | ⟨g', cap', cur, he, hg, hgg, h1, h2, h3, h4⟩
  · cases he
  · simp only [Value.slice.injEq, Option.some.injEq, Addr.mk.injEq, and_true] at he
    obtain ⟨rfl, _, rfl⟩ := he
    refine ⟨g, cap, cur.setIfInBounds i u, rfl, hg, ?_, h1, h2, by simpa using h3, ?_⟩
    · simp only [World.setCell]
      rw [Array.getElem?_modify, if_pos rfl, hgg]; rfl
    · rw [← h4, Array.toList_setIfInBounds, List.take_set]
end Go.Proofs.Ytmffobadnmkpbaa
namespace Go.Proofs.Ytmffobadnmkpbaa
open Go.RowKit

theorem below_one (w : World) (o : Obj) : Below w.heap.size w (w.alloc o) := (Below.refl _ _).alloc (Nat.le_refl _) o
theorem TmAt.nil_of {p : Nat → Prop} {w : World} {t : Tm} {a : Value} (h : TmAt p w t a) (hk : t.kind ≠ 4) : a = .slice none 0 0 := by
  cases h with
  | leaf => rfl
  | node => simp [Tm.kind] at hk

set_option maxRecDepth 100000 in
theorem args_c (t : Tm) (ao : Option Addr) (n c : Nat) (h : t.kind ≠ 4 → (.slice ao n c : Value) = .slice none 0 0) (w : World) :
    Calls Try.prog 62 #[.agg #[.int .i64 t.kind, .int .i64 t.num, .string t.name, .slice ao n c]] w fun e w' => e = .returned (.slice ao n c) ∧ Below w.heap.size w w' := by
  have HZ := Lib.hid (below_one w)
  by_cases hk : t.kind = 4
  · rw [hk]
    clear h hk
    go_enter Try.func62, Try.ntmps62
    go_wp2
    go_ret
    exact ⟨rfl, HZ.out _⟩
  · have he := h hk
    have hkb : (t.kind != 4) = true := by simpa using hk
    simp only [Value.slice.injEq] at he
    obtain ⟨rfl, rfl, rfl⟩ := he
    clear h hk
    go_enter Try.func62, Try.ntmps62
    go_wp2
    go_ret
    exact ⟨rfl, HZ.out _⟩

def SizeC (t : Tm) : Prop := ∀ (va : Value) (w : World), TmAt (fun _ => True) w t va → t.size ≤ 1000000000 →
  Calls Try.prog 15 #[tmV t va] w fun e w' => e = .returned (.int .i64 t.size) ∧ Below w.heap.size w w'

set_option maxRecDepth 100000 in
set_option maxHeartbeats 1600000 in
theorem size_step (t : Tm) (va : Value) (w : World) (ht : TmAt (fun _ => True) w t va) (hb : t.size ≤ 1000000000) (hC : ∀ u ∈ t.args, SizeC u) :
    Calls Try.prog 15 #[tmV t va] w fun e w' => e = .returned (.int .i64 t.size) ∧ Below w.heap.size w w' := by
  have h4 := fun h => ht.nil_of h
  obtain ⟨ao, cc, rfl, hc1, hc2⟩ := ht.shape
  have HT := Lib.hid (TsAt.of_tm ht)
  have HC := Lib.hid hC
  have HA : Hid (∀ W, Calls Try.prog 62 #[.agg #[.int .i64 t.kind, .int .i64 t.num, .string t.name, .slice ao t.args.length cc]] W fun e w' => e = .returned (.slice ao t.args.length cc) ∧ Below W.heap.size W w') := fun W => args_c t _ _ _ h4 W
  have HZ := Lib.hid (below_one w)
  have HS := Lib.hid t.size_eq
  have HB := Lib.hid hb
  have hl : t.args.length ≤ 1000000000 := by have h1 := Tm.sizes_len t.args; have h2 := t.size_eq; omega
  unfold tmV
  clear ht hC h4 hb hc1 hc2
  generalize t.size = z at *
  generalize t.args = l at *
  go_enter Try.func15, Try.ntmps15
  go_wp2_with (first | (go_at_call 62; ((with_reducible refine (HA.out _).mono ?_); rintro e W1 ⟨rfl, bb⟩; have B1 := Lib.hid ((HZ.out _).trans (bb.mono (by simp))); clear bb)))
  go_loopg [3, 9] l.length (fun n s i wr => ∃ (k : Nat) (S : Int), k ≤ l.length ∧ s = .int .i64 S ∧ i = .int .i64 k ∧ 0 ≤ S ∧ S ≤ 1000000000 ∧ Hid (n = l.length - k) ∧ Hid (S = 1 + Tm.sizes (l.take k)) ∧ Hid (Below w.heap.size w wr))
  case atStart => exact ⟨0, 1, by omega, rfl, rfl, by omega, by omega, rfl, Lib.hid (by simp [Tm.sizes]), B1⟩
  case round =>
    obtain ⟨k, S, hk, rfl, rfl, hS0, hS1, HN, HE, HW⟩ := hrel
    by_cases hlt : k < l.length
    · obtain ⟨b, off, a1, rfl, -, hcc, hta⟩ := (HT.out.later HW.out).get k hlt
      obtain ⟨ao1, c1, rfl, _⟩ := hta.shape
      have CX := Lib.hid (HC.out l[k] (List.getElem_mem hlt))
      have HD := Lib.hid (Tm.sizes_take l k hlt)
      have hbb : S + (l[k].size : Int) ≤ 1000000000 := by
        have h1 := HE.out; have h2 := HS.out; have h3 := HD.out; have h4 := Tm.sizes_take_le l (k + 1); have h5 := HB.out; omega
      generalize l[k] = u at *
      obtain ⟨x0, x1, x2, x3⟩ := hcc
      have hbl := World.block_lt_of_cell? wr _ x0
      have HU := Lib.hid hta
      have HZ2 := Lib.hid (below_one wr)
      have CC : Hid (∀ W, Below wr.heap.size wr W → Calls Try.prog 15 #[.agg #[.int .i64 u.kind, .int .i64 u.num, .string u.name, .slice ao1 u.args.length c1]] W fun e w' => e = .returned (.int .i64 u.size) ∧ Below W.heap.size W w') := fun W h => CX.out _ W (HU.out.later h) (by omega)
      clear hta CX
      generalize u.size = y at *
      go_wp2_with (first | (go_at_call 15; ((with_reducible refine (CC.out _ (HZ2.out _)).mono ?_); rintro e W2 ⟨rfl, bb⟩; have BB := Lib.hid bb; clear bb)))
      go_roundg (l.length - (k + 1))
      case measure => have := HN.out; omega
      case rel => exact ⟨k + 1, S + y, by omega, by go_num, by go_num, by omega, by omega, rfl, Lib.hid (by have h1 := HE.out; have h3 := HD.out; omega), HW.out.trans ((HZ2.out _).trans (BB.out.mono (by simp)) |>.mono HW.out.size)⟩
    · obtain rfl : k = l.length := by omega
      have HR : Hid (S = z) := by have h1 := HE.out; have h2 := HS.out; rw [List.take_length] at h1; show _ = _; omega
      go_wp2
      go_ret
      exact ⟨ret_int HR.out, HW.out⟩
theorem size_all (t : Tm) : SizeC t := by
  induction t using Tm.ind with
  | h4 s l ih => exact fun va w ha hb => size_step _ va w ha hb ih
  | _ => exact fun va w ha hb => size_step _ va w ha hb (by simp [Tm.args])
theorem size_c (t : Tm) (va : Value) (w : World) (ht : TmAt (fun _ => True) w t va) (hb : t.size ≤ 1000000000) :
    Calls Try.prog 15 #[tmV t va] w fun e w' => e = .returned (.int .i64 t.size) ∧ Below w.heap.size w w' := size_all t va w ht hb
end Go.Proofs.Ytmffobadnmkpbaa
namespace Go.Proofs.Ytmffobadnmkpbaa
open Go.RowKit

def IsAt (w : World) (v : Value) (zs : List Int) : Prop := SlAt w 1 v zs.length (zs.map (Value.int .i64))
theorem IsAt.below {w w' : World} {v : Value} {zs : List Int} (h : IsAt w v zs) (hb : Below w.heap.size w w') : IsAt w' v zs := SlAt.below h hb
theorem IsAt.shape {w : World} {v : Value} {zs : List Int} (h : IsAt w v zs) : ∃ ao cap, v = .slice ao zs.length cap ∧ zs.length ≤ cap ∧ cap ≤ maxLen := SlAt.shape h
theorem IsAt.own {w : World} {base : Nat} {e : TypeId} {v : Value} {zs : List Int} (h : w.ownsRow base e 1 v zs.length (zs.map (Value.int .i64))) : IsAt w v zs := SlAt.of_own h
theorem IsAt.getR {w : World} {ao : Option Addr} {n cap : Nat} {zs : List Int} (h : IsAt w (.slice ao n cap) zs) (k : Nat) (hk : k < zs.length) :
    ∃ b off, ao = some ⟨b, off, none⟩ ∧ zs.length ≤ cap ∧ b < w.heap.size ∧ w.cell? ⟨b, off + k, none⟩ = some (.int .i64 zs[k]) := by
  obtain ⟨b, off, c', he, hc, _, hb, hx⟩ := SlAt.pos h (by omega)
  simp only [Value.slice.injEq] at he
  obtain ⟨rfl, rfl, rfl⟩ := he
  exact ⟨b, off, rfl, hc, hb, by rw [hx k (by omega)]; simp [hk]⟩
/-- the list L, wherever it lies -/
def RetIs (L : List Int) (w : World) (e : Ending) (w' : World) : Prop := ∃ ao cap, e = .returned (.slice ao L.length cap) ∧ IsAt w' (.slice ao L.length cap) L ∧ Below w.heap.size w w'

theorem below_drewT {B : Nat} {w w' : World} (h : Below B w w') (q : Nat) : Below B w (w'.drewN q) := by
  induction q with
  | zero => exact h
  | succ q ih => exact ih.drew
set_option maxRecDepth 100000 in
theorem has_c (va : Value) (x : List Int) (n : Int) (w : World) (ha : IsAt w va x) (hl : x.length ≤ 1000000) :
    Calls Try.prog 64 #[va, .int .i64 n] w fun e w' => e = .returned (.bool (decide (n ∈ x))) ∧ Below w.heap.size w w' := by
  obtain ⟨ao, cap, rfl, _⟩ := ha.shape
  have HA := Lib.hid ha
  clear ha
  go_enter Try.func64, Try.ntmps64
  go_wp2
  go_loopg [5] x.length (fun m s wr => ∃ k : Nat, k ≤ x.length ∧ s = .int .i64 k ∧ Hid (m = x.length - k) ∧ Hid (n ∉ x.take k) ∧ Hid (Below w.heap.size w wr))
  case atStart => exact ⟨0, by omega, rfl, rfl, Lib.hid (by simp), Below.refl _ _⟩
  case round =>
    obtain ⟨k, hk, rfl, HN, HE, HW⟩ := hrel
    by_cases hlt : k < x.length
    · obtain ⟨b1, o1, rfl, q1, q2, hc1⟩ := (HA.out.below HW.out).getR k hlt
      have HS : Hid (n ≠ x[k] → n ∉ x.take (k + 1)) := fun h => by
        rw [List.take_succ_eq_append_getElem hlt, List.mem_append]; exact fun h3 => h3.elim (fun h2 => HE.out h2) (fun h2 => h (by simpa using h2))
      have HM : Hid (n = x[k] → n ∈ x) := fun h => h ▸ List.getElem_mem hlt
      generalize x[k] = p at *
      by_cases hpq : p = n
      · have hb : (p == n) = true := by simp [hpq]
        have HM2 := Lib.hid (HM.out hpq.symm)
        clear hpq HS HM
        go_wp2
        go_ret
        exact ⟨ret_bool (by symm; simp; exact HM2.out), HW.out⟩
      · have hb : (p == n) = false := by simp [hpq]
        have HS2 := Lib.hid (HS.out (fun e => hpq e.symm))
        clear hpq HS HM
        go_wp2
        go_roundg (x.length - (k + 1))
        case measure => have := HN.out; omega
        case rel => exact ⟨k + 1, by omega, by go_num, rfl, HS2, HW.out⟩
    · obtain rfl : k = x.length := by omega
      have HT : Hid (n ∉ x) := by have h := HE.out; rw [List.take_length] at h; exact h
      go_wp2
      go_ret
      exact ⟨ret_bool (by symm; simp; exact HT.out), HW.out⟩

set_option maxRecDepth 100000 in
theorem sameInts07_c (va vb : Value) (x y : List Int) (w : World) (ha : IsAt w va x) (hb : IsAt w vb y) (hl : x.length ≤ 1000000) :
    Calls Try.prog 19 #[va, vb] w fun e w' => e = .returned (.bool (decide (x = y))) ∧ Below w.heap.size w w' := by
  obtain ⟨ao, cap, rfl, _⟩ := SlAt.shape ha
  obtain ⟨ao2, cap2, rfl, _⟩ := SlAt.shape hb
  have HA := Lib.hid ha
  have HB := Lib.hid hb
  clear ha hb
  by_cases h1 : x.length = y.length
  case neg =>
    have hne : ((x.length : Int) != y.length) = true := by simp; omega
    have H1 := Lib.hid h1
    clear h1
    go_enter Try.func19, Try.ntmps19
    go_wp2
    go_ret
    exact ⟨ret_bool (by symm; simp; intro h; exact H1.out (by rw [h])), Below.refl _ _⟩
  case pos =>
    have H1 := Lib.hid h1
    have hne : ((x.length : Int) != y.length) = false := by rw [h1]; simp
    clear h1
    go_enter Try.func19, Try.ntmps19
    go_wp2
    go_loopg [5] x.length (fun m s wr => ∃ k : Nat, k ≤ x.length ∧ s = .int .i64 k ∧ Hid (m = x.length - k) ∧ Hid (x.take k = y.take k) ∧ Hid (Below w.heap.size w wr))
    case atStart => exact ⟨0, by omega, rfl, rfl, rfl, Lib.hid (Below.refl _ _)⟩
    case round =>
      obtain ⟨k, hk, rfl, HM, HE, HW⟩ := hrel
      by_cases hlt : k < x.length
      · have hly : k < y.length := by have := H1.out; omega
        obtain ⟨b1, o1, rfl, q1, q2, hc1⟩ := IsAt.getR (HA.out.below HW.out) k hlt
        obtain ⟨b2, o2, rfl, q3, q4, hc2⟩ := IsAt.getR (HB.out.below HW.out) k hly
        have j1 : (k : Int) < x.length := by omega
        have j2 : (k : Int) < y.length := by omega
        have HS : Hid (x[k] = y[k] → x.take (k + 1) = y.take (k + 1)) := fun h => by
          rw [List.take_succ_eq_append_getElem hlt, List.take_succ_eq_append_getElem hly, HE.out, h]
        have HN : Hid (x[k] ≠ y[k] → x ≠ y) := fun h he => by subst he; exact h rfl
        generalize x[k] = p at *
        generalize y[k] = q at *
        by_cases hpq : p = q
        · have hb : (p != q) = false := by simp [hpq]
          have HS2 := Lib.hid (HS.out hpq)
          clear HS HN
          go_wp2
          go_quiet (fail)
          go_wp2
          go_roundg (x.length - (k + 1))
          case measure => have := HM.out; omega
          case rel => exact ⟨k + 1, by omega, by go_num, rfl, HS2, Lib.hid (below_drewT HW.out _)⟩
        · have hb : (p != q) = true := by simp [hpq]
          have HN2 := Lib.hid (HN.out hpq)
          clear HS HN
          go_wp2
          go_quiet (fail)
          go_wp2
          go_ret
          exact ⟨ret_bool (by symm; simp; exact HN2.out), below_drewT HW.out _⟩
      · obtain rfl : k = x.length := by omega
        have HT : Hid (x = y) := by
          have h := HE.out
          rw [List.take_length, H1.out, List.take_length] at h
          exact h
        go_wp2
        go_ret
        exact ⟨ret_bool (by symm; simp; exact HT.out), HW.out⟩

set_option maxRecDepth 100000 in
theorem sameInts12_c (va vb : Value) (x y : List Int) (w : World) (ha : IsAt w va x) (hb : IsAt w vb y) (hl : x.length ≤ 1000000) :
    Calls Try.prog 48 #[va, vb] w fun e w' => e = .returned (.bool (decide (x = y))) ∧ Below w.heap.size w w' := by
  obtain ⟨ao, cap, rfl, _⟩ := SlAt.shape ha
  obtain ⟨ao2, cap2, rfl, _⟩ := SlAt.shape hb
  have HA := Lib.hid ha
  have HB := Lib.hid hb
  clear ha hb
  by_cases h1 : x.length = y.length
  case neg =>
    have hne : ((x.length : Int) != y.length) = true := by simp; omega
    have H1 := Lib.hid h1
    clear h1
    go_enter Try.func48, Try.ntmps48
    go_wp2
    go_ret
    exact ⟨ret_bool (by symm; simp; intro h; exact H1.out (by rw [h])), Below.refl _ _⟩
  case pos =>
    have H1 := Lib.hid h1
    have hne : ((x.length : Int) != y.length) = false := by rw [h1]; simp
    clear h1
    go_enter Try.func48, Try.ntmps48
    go_wp2
    go_loopg [5] x.length (fun m s wr => ∃ k : Nat, k ≤ x.length ∧ s = .int .i64 k ∧ Hid (m = x.length - k) ∧ Hid (x.take k = y.take k) ∧ Hid (Below w.heap.size w wr))
    case atStart => exact ⟨0, by omega, rfl, rfl, rfl, Lib.hid (Below.refl _ _)⟩
    case round =>
      obtain ⟨k, hk, rfl, HM, HE, HW⟩ := hrel
      by_cases hlt : k < x.length
      · have hly : k < y.length := by have := H1.out; omega
        obtain ⟨b1, o1, rfl, q1, q2, hc1⟩ := IsAt.getR (HA.out.below HW.out) k hlt
        obtain ⟨b2, o2, rfl, q3, q4, hc2⟩ := IsAt.getR (HB.out.below HW.out) k hly
        have j1 : (k : Int) < x.length := by omega
        have j2 : (k : Int) < y.length := by omega
        have HS : Hid (x[k] = y[k] → x.take (k + 1) = y.take (k + 1)) := fun h => by
          rw [List.take_succ_eq_append_getElem hlt, List.take_succ_eq_append_getElem hly, HE.out, h]
        have HN : Hid (x[k] ≠ y[k] → x ≠ y) := fun h he => by subst he; exact h rfl
        generalize x[k] = p at *
        generalize y[k] = q at *
        by_cases hpq : p = q
        · have hb : (p != q) = false := by simp [hpq]
          have HS2 := Lib.hid (HS.out hpq)
          clear HS HN
          go_wp2
          go_quiet (fail)
          go_wp2
          go_roundg (x.length - (k + 1))
          case measure => have := HM.out; omega
          case rel => exact ⟨k + 1, by omega, by go_num, rfl, HS2, Lib.hid (below_drewT HW.out _)⟩
        · have hb : (p != q) = true := by simp [hpq]
          have HN2 := Lib.hid (HN.out hpq)
          clear HS HN
          go_wp2
          go_quiet (fail)
          go_wp2
          go_ret
          exact ⟨ret_bool (by symm; simp; exact HN2.out), below_drewT HW.out _⟩
      · obtain rfl : k = x.length := by omega
        have HT : Hid (x = y) := by
          have h := HE.out
          rw [List.take_length, H1.out, List.take_length] at h
          exact h
        go_wp2
        go_ret
        exact ⟨ret_bool (by symm; simp; exact HT.out), HW.out⟩
end Go.Proofs.Ytmffobadnmkpbaa
namespace Go.Proofs.Ytmffobadnmkpbaa
open Go.RowKit Go.Maps

theorem Try.infoInt : (Try.prog.info? 3).map (fun i => (i.zero, i.size, i.bytes)) = some (some (.int .i64 0), 1, 8) := by kernel_rfl
theorem wpList_plainG {P : Program} {ops : Array Oper} {Q : Exit → Act → World → Prop} {a : Act} {w : World} {rest : List Oper} {o : Oper} (hg : Region.wanted o (yielded ops a.tmps) = true)
    (h : ∀ K : Act → World → Prop, (∀ a w, wpList P ops Q rest a w → K a w) → o.wp P a w K Q) : wpList P ops Q (o :: rest) a w :=
  wpList_step fun K hK => by rw [if_pos hg]; exact h K hK
/-- 'm[i]', guarded -/
theorem wpList_lookup_setG {P : Program} {K E : TypeId} {ops : Array Oper} {rest : List Oper} {o : Oper} {a : Act} {Q : Exit → Act → World → Prop} (w : World) (hg : Region.wanted o (yielded ops a.tmps) = true) (m x : Operand) (t : TypeId) (hop : o.op = Op.lookup t m x false)
    (hK : P.underlying K = some (.int .i64)) (ht : P.underlying t = some (.map K E)) (hE : P.underlying E = some .bool) (hz : (zeroValue E).run P w = .ok (.bool false) w)
    (b n : Nat) (S : Int → Bool) (hm : a.eval m = .map (some b)) (h : SetAt P K E w b n S) (i : Int) (hx : a.eval x = .int .i64 i) (hi : -9223372036854775808 ≤ i ∧ i ≤ 9223372036854775807)
    (hk : wpList P ops Q rest (a.put o.dst (.bool (S i))) w) : wpList P ops Q (o :: rest) a w := by
  refine wpList_plainG hg fun K' hK' => ?_
  obtain ⟨D, h1, h2, h3⟩ := h
  obtain ⟨v, ps, hrun, hv⟩ := h1.lookup (int_keyed hK) ht hz (plainElem_bool hE false) (keyOf_int_mk hK (wf64 hi))
  obtain ⟨c, rfl, hc⟩ := plainElem_bool_inv hE hv
  rw [h3] at hc
  simp only [Prod.mk.injEq, DataW.lit.injEq, Lit.bool.injEq] at hc
  unfold Oper.wp
  simp [execOp, hop, hm, hx, hrun, Result.andThen]
  rw [← hc.1]
  exact hK' _ _ hk
/-- what the closure of term.Vars holds on to: the list, what was seen, itself -/
structure VB (h : Nat) (w0 wr : World) (v : Value) (L M : List Int) : Prop where
  obox : Box1 wr (h + 1) v
  own : wr.ownsRow (h + 5) 3 1 v L.length (L.map (Value.int .i64))
  seen : Box1 wr (h + 3) (.map (some (h + 2)))
  walk : Box1 wr (h + 4) (.func (.func 63) #[] #[.pointer (some ⟨h + 3, 0, none⟩), .pointer (some ⟨h + 1, 0, none⟩), .pointer (some ⟨h + 4, 0, none⟩)])
  set : SetAt Try.prog 3 4 wr (h + 2) M.length (fun i => decide (i ∈ M))
  bel : Below h w0 wr
  size : h + 5 ≤ wr.heap.size
theorem Box1.blockEq {w w' : World} {b : Nat} {x : Value} (h : Box1 w b x) (e : w'.heap[b]? = w.heap[b]?) : Box1 w' b x :=
  ⟨(World.cell?_of_block (a := ⟨b, 0, none⟩) e).trans h.c0, (World.frozen?_of_block (a := ⟨b, 0, none⟩) e).trans h.f0⟩
theorem VB.below {h : Nat} {w0 wr wr' : World} {v : Value} {L M : List Int} (H : VB h w0 wr v L M) (hb : Below wr.heap.size wr wr') : VB h w0 wr' v L M :=
  ⟨H.obox.past hb, own_below H.own hb, H.seen.past hb, H.walk.past hb, H.set.later hb, H.bel.trans (hb.mono (by have := H.size; omega)), Nat.le_trans H.size hb.size⟩
theorem VB.grown {h : Nat} {w0 wr wr' : World} {v : Value} {L M M' : List Int} (H : VB h w0 wr v L M) (hg : wr.grownBy wr' (some (h + 2))) (hs : SetAt Try.prog 3 4 wr' (h + 2) M'.length (fun i => decide (i ∈ M'))) : VB h w0 wr' v L M' := by
  have hsz := H.size
  have hk : ∀ b, b < wr.heap.size → b ≠ h + 2 → wr'.heap[b]? = wr.heap[b]? := fun b hb hne => hg.block b hb (by simpa using hne)
  refine ⟨H.obox.blockEq (hk _ (by omega) (by omega)), ?_, H.seen.blockEq (hk _ (by omega) (by omega)), H.walk.blockEq (hk _ (by omega) (by omega)), hs, ?_, Nat.le_trans H.size hg.size⟩
  · refine ⟨H.own.1, ?_⟩
    rcases H.own.2 with hn | ⟨g, cap, cur, rfl, hg2, hgg, rest⟩
    · exact .inl hn
    · exact .inr ⟨g, cap, cur, rfl, hg2, (hk g (Array.getElem?_eq_some_iff.1 hgg).1 (by omega)).trans hgg, rest⟩
  · exact H.bel.grown hg (by omega) (fun j e => by cases e; omega)
theorem VB.app {h : Nat} {w0 wr w5 w6 : World} {v v' : Value} {L M : List Int} (H : VB h w0 wr v L M) (e5 : w5 = wr) {n : Int} (ho : w6.ownsRow (h + 5) 3 1 v' (L.length + 1) (L.map (Value.int .i64) ++ [.int .i64 n])) (hb : Below (h + 5) w5 w6) (hk : KeepsBut w5 w6 v) : VB h w0 (w6.setCell ⟨h + 1, 0, none⟩ v') v' (L ++ [n]) M := by
  subst e5
  have hsz := H.size
  have hn : ∀ b, b < h + 5 → w6.heap[b]? = w5.heap[b]? := fun b hb' => hk b (by omega) (own_ne H.own hb')
  refine ⟨(H.obox.blockEq (hn _ (by omega))).set v', ?_, (H.seen.blockEq (hn _ (by omega))).far (by simp) _, (H.walk.blockEq (hn _ (by omega))).far (by simp) _, (H.set.block (hn _ (by omega))).block (Below.heap_setCell _ _ _ _ (by simp)), ?_, ?_⟩
  · have := own_setCell ho (a := ⟨h + 1, 0, none⟩) (by simp) v'
    simpa using this
  · exact (H.bel.trans (hb.mono (by omega))).setCell (p := ⟨h + 1, 0, none⟩) (by simp) v'
  · have := hb.size; simp; omega

def WalkC (h : Nat) (w0 : World) (t : Tm) : Prop := ∀ (va : Value) (wr : World) (v : Value) (L : List Int), VB h w0 wr v L L → TmAt (fun b => b < h) w0 t va → t.ok → L.length + t.size ≤ 100000000 →
  Calls Try.prog 63 #[tmV t va, .pointer (some ⟨h + 3, 0, none⟩), .pointer (some ⟨h + 1, 0, none⟩), .pointer (some ⟨h + 4, 0, none⟩)] wr fun e w' => e = .returned (.tuple #[]) ∧ ∃ v', VB h w0 w' v' (addVs L t.vs) (addVs L t.vs)
end Go.Proofs.Ytmffobadnmkpbaa
namespace Go.Proofs.Ytmffobadnmkpbaa
open Go.RowKit

theorem Tm.vss_take_end (l : List Tm) : Tm.vss (l.take l.length) = Tm.vss l := by rw [List.take_length]
theorem Tm.vs_args {t : Tm} (h : t.kind ≠ 1) : t.vs = Tm.vss t.args := by
  cases t <;> simp [Tm.kind] at h <;> simp [Tm.vs, Tm.args, Tm.vss]
set_option maxRecDepth 100000 in
set_option maxHeartbeats 3200000 in
theorem walk_step (h : Nat) (w0 : World) (_hh : w0.heap.size = h) (t : Tm) (va : Value) (wq : World) (v : Value) (L : List Int) (hB : VB h w0 wq v L L) (ht : TmAt (fun b => b < h) w0 t va) (hok : t.ok) (hn : L.length + t.size ≤ 100000000) (hC : ∀ u ∈ t.args, WalkC h w0 u) :
    Calls Try.prog 63 #[tmV t va, .pointer (some ⟨h + 3, 0, none⟩), .pointer (some ⟨h + 1, 0, none⟩), .pointer (some ⟨h + 4, 0, none⟩)] wq fun e w' => e = .returned (.tuple #[]) ∧ ∃ v', VB h w0 w' v' (addVs L t.vs) (addVs L t.vs) := by
  have h4 := fun h => ht.nil_of h
  obtain ⟨ao, cc, rfl, hc1, hc2⟩ := ht.shape
  have HT := Lib.hid (TsAt.of_tm ht)
  have HC := Lib.hid hC
  have HB := Lib.hid hB
  have HN := Lib.hid hn
  have HOK := Lib.hid (Tm.ok_args hok)
  have hsz := hB.size
  obtain ⟨i0, hi, hz0, hz1, hz2⟩ := info_parts Try.infoInt
  have HA : Hid (∀ W, Calls Try.prog 62 #[.agg #[.int .i64 t.kind, .int .i64 t.num, .string t.name, .slice ao t.args.length cc]] W fun e w' => e = .returned (.slice ao t.args.length cc) ∧ Below W.heap.size W w') := fun W => args_c t _ _ _ h4 W
  by_cases hk : t.kind = 1
  · obtain ⟨n, rfl, hn5⟩ := Tm.ok_var hok hk
    have hnn : (0 : Int) ≤ n ∧ (n : Int) < 5000 := by omega
    have h0 := fun hk => h4 hk
    have he := h4 (by simp [Tm.kind])
    simp only [Value.slice.injEq, Tm.args, List.length_nil] at he
    obtain ⟨rfl, -, rfl⟩ := he
    have HBX := Lib.hid (BoxL.mk' wq #[.int .i64 1, .int .i64 n, .string ByteArray.empty, .slice none 0 0] 24)
    have HB1 := Lib.hid (HB.out.below (below_one wq (.cells #[.int .i64 1, .int .i64 n, .string ByteArray.empty, .slice none 0 0] 24)))
    have HA1 : Hid (∀ W, Calls Try.prog 62 #[.agg #[.int .i64 1, .int .i64 n, .string ByteArray.empty, .slice none 0 0]] W fun e w' => e = .returned (.slice none 0 0) ∧ Below W.heap.size W w') := HA.out
    clear h0 h4 ht hC hB hok hk hc1 hc2 HC HT HA
    by_cases hm : (n : Int) ∈ L
    · have HK : Hid (addVs L (Tm.vs (.var n)) = L) := by show _ = _; simp [Tm.vs, addVs_cons, addVs_nil, addV_mem hm]
      rw [HK.out]
      have hd : Hid (decide ((n : Int) ∈ L) = true) := decide_eq_true hm
      have hhn : L.length ≤ 100000000 := by omega
      clear hm HK hn
      change Calls _ _ #[.agg #[.int .i64 1, .int .i64 n, .string ByteArray.empty, .slice none 0 0], _, _, _] _ _
      have sn := HB1.out.seen.c0
      go_enter Try.func63, Try.ntmps63
      go_wp2_with (first
        | (at_lookup; refine wpList_lookup_setG _ rfl _ _ 74 rfl Try.underlying3 Try.underlying74 Try.underlying4 (Try.zeroValue4 _) (h + 2) L.length _ rfl HB1.out.set n rfl (by omega) ?_; rw [hd.out])
        | (go_at_call 62; ((with_reducible refine (HA1.out _).mono ?_); rintro e W1 ⟨rfl, bb⟩; have B1 := Lib.hid (HB1.out.below bb); clear bb)))
      go_loopg [28] 0 (fun n i wr => i = .int .i64 0 ∧ Hid (wr = W1))
      case atStart => exact ⟨rfl, rfl⟩
      case round =>
        obtain ⟨rfl, HW⟩ := hrel
        go_wp2
        go_end0
        exact ⟨rfl, v, by rw [HW.out]; exact B1.out⟩
    · have HK : Hid (addVs L (Tm.vs (.var n)) = L ++ [(n : Int)]) := by show _ = _; simp [Tm.vs, addVs_cons, addVs_nil, addV_new hm]
      rw [HK.out]
      have hd : Hid (decide ((n : Int) ∈ L) = false) := decide_eq_false hm
      have hhn : L.length < 100000000 := by simp [Tm.size] at hn; omega
      clear hm HK hn
      change Calls _ _ #[.agg #[.int .i64 1, .int .i64 n, .string ByteArray.empty, .slice none 0 0], _, _, _] _ _
      have sn := HB1.out.seen.c0
      obtain ⟨f0, _⟩ := HBX.out.get 0 rfl
      obtain ⟨f1, _⟩ := HBX.out.get 1 rfl
      have HP : Hid (∀ w5, SetAt Try.prog 3 4 w5 (h + 2) (L.length + 1) (fun j => if j = (n : Int) then true else decide (j ∈ L)) → (wq.alloc (.cells #[.int .i64 1, .int .i64 n, .string ByteArray.empty, .slice none 0 0] 24)).grownBy w5 (some (h + 2)) → VB h w0 w5 v L (L ++ [(n : Int)]) ∧ BoxL w5 wq.heap.size [.int .i64 1, .int .i64 n, .string ByteArray.empty, .slice none 0 0] ∧ wq.heap.size < w5.heap.size) := fun w5 hs hg => by
        refine ⟨HB1.out.grown hg ?_, HBX.out.block (hg.block _ (by simp) (by simp; omega)), by have := hg.size; simp at this; omega⟩
        have hs' : SetAt Try.prog 3 4 w5 (h + 2) (L ++ [(n : Int)]).length (fun j => if j = (n : Int) then true else decide (j ∈ L)) := by simpa using hs
        exact hs'.congr fun j => by by_cases e : j = (n : Int) <;> simp [e]
      go_enter Try.func63, Try.ntmps63
      go_wp2_with (first
        | (at_lookup; refine wpList_lookup_setG _ rfl _ _ 74 rfl Try.underlying3 Try.underlying74 Try.underlying4 (Try.zeroValue4 _) (h + 2) L.length _ rfl HB1.out.set n rfl (by omega) ?_; rw [hd.out])
        | (at_mapUpdate; refine wpList_mapUpdate_set _ rfl _ _ _ 74 rfl 3 4 Try.underlying3 Try.underlying74 Try.underlying4 (h + 2) L.length _ rfl HB1.out.set (by unfold maxLen; omega) n rfl (by omega) true rfl ?_; intro w5 hs5 hg5; obtain ⟨hv5, hx5, hz5⟩ := HP.out w5 hs5 hg5; have V5 := Lib.hid hv5; have X5 := Lib.hid hx5; obtain ⟨f0, _⟩ := hx5.get 0 rfl; obtain ⟨f1, _⟩ := hx5.get 1 rfl; have o5 := hv5.obox.c0; clear hs5 hg5 hv5 hx5)
        | (at_builtin; refine wpList_appendX rfl (.tmp 20) (.tmp 23) 29 rfl (h + 5) 3 i0 (.int .i64 0) 1 8 Try.underlying29 hi hz0 hz1 hz2 rfl (by decide) _ L.length (L.map (Value.int .i64)) rfl V5.out.own _ _ rfl rfl rfl (one1 rfl) ⟨by omega, by omega⟩ V5.out.size ?_; intro g cap w6 ho6 hb6 hk6 hl6; have V6 := Lib.hid (V5.out.app rfl ho6 hb6 hk6); have F6 := Lib.hid (V5.out.obox.kept hk6 (own_ne V5.out.own (by omega))); have X6 := Lib.hid ((X5.out.kept (by simp) hk6 (own_far HB.out.own (Nat.le_refl _)))); have f6 := F6.out.f0; have o6 := F6.out.c0; have X7 := Lib.hid (X6.out.far (a := ⟨h + 1, 0, none⟩) (by simp; omega) (.slice (some ⟨g, 0, none⟩) (L.length + 1) cap)); obtain ⟨g0, _⟩ := X7.out.get 0 rfl; obtain ⟨g1, _⟩ := X7.out.get 1 rfl; obtain ⟨g2, _⟩ := X7.out.get 2 rfl; obtain ⟨g3, _⟩ := X7.out.get 3 rfl)
        | (go_at_call 62; ((with_reducible refine (HA1.out _).mono ?_); rintro e W1 ⟨rfl, bb⟩; have B1 := Lib.hid (V6.out.below bb); clear bb)))
      go_loopg [28] 0 (fun n i wr => i = .int .i64 0 ∧ Hid (wr = W1))
      case atStart => exact ⟨rfl, rfl⟩
      case round =>
        obtain ⟨rfl, HW⟩ := hrel
        go_wp2
        go_end0
        exact ⟨rfl, _, by rw [HW.out]; exact B1.out⟩
  · have hkb : (t.kind == 1) = false := by simpa using hk
    have HV := Lib.hid (Tm.vs_args hk)
    have hl : t.args.length ≤ 100000000 := by have h1 := Tm.sizes_len t.args; have h2 := t.size_eq; omega
    have HS := Lib.hid t.size_eq
    have HZ := Lib.hid (below_one wq)
    obtain ⟨K, hK⟩ : ∃ K, K = t.vs := ⟨_, rfl⟩
    have HKK := Lib.hid hK
    rw [← hK]
    clear hK ht hC h4 hB hn hok hk hc1 hc2
    unfold tmV
    generalize t.args = l at *
    go_enter Try.func63, Try.ntmps63
    go_wp2_with (first | (go_at_call 62; ((with_reducible refine (HA.out _).mono ?_); rintro e W1 ⟨rfl, bb⟩; have B1 := Lib.hid (HB.out.below ((HZ.out _).trans (bb.mono (by simp)))); clear bb)))
    go_loopg [28] l.length (fun n i wr => ∃ (k : Nat) (v' : Value), k ≤ l.length ∧ i = .int .i64 k ∧ Hid (n = l.length - k) ∧ Hid (VB h w0 wr v' (addVs L (Tm.vss (l.take k))) (addVs L (Tm.vss (l.take k)))))
    case atStart => exact ⟨0, v, by omega, rfl, rfl, Lib.hid (by simpa [Tm.vss, addVs_nil] using B1.out)⟩
    case round =>
      obtain ⟨k, v', hk, rfl, HN2, HW⟩ := hrel
      by_cases hlt : k < l.length
      · have hb := HW.out.bel
        obtain ⟨b, off, a1, rfl, hpb, hcc, hta⟩ := HT.out.get k hlt
        obtain ⟨ao1, c1, rfl, _⟩ := hta.shape
        have CX := Lib.hid (HC.out l[k] (List.getElem_mem hlt))
        have HD := Lib.hid (Tm.vss_take l k hlt)
        have HO := Lib.hid (HOK.out l[k] (List.getElem_mem hlt))
        have hbb : (addVs L (Tm.vss (l.take k))).length + l[k].size ≤ 100000000 := by
          have h1 := HN.out; have h2 := HS.out; have h3 := Tm.sizes_take l k hlt; have h4 := Tm.sizes_take_le l (k + 1)
          have h5 := addVs_len L (Tm.vss (l.take k))
          have h6 : (Tm.vss (l.take k)).length ≤ Tm.sizes (l.take k) := Tm.vss_len _
          omega
        generalize l[k] = u at *
        have hcw := hcc.block (hb.block _ hpb)
        obtain ⟨x0, x1, x2, x3⟩ := hcw
        have hbl := World.block_lt_of_cell? wr _ x0
        have wlk := HW.out.walk.c0
        have HU := Lib.hid hta
        have HZ2 := Lib.hid (below_one wr)
        have hwb := World.block_lt_of_cell? wr _ wlk
        have CC : Hid (∀ W, Below wr.heap.size wr W → Calls Try.prog 63 #[.agg #[.int .i64 u.kind, .int .i64 u.num, .string u.name, .slice ao1 u.args.length c1], .pointer (some ⟨h + 3, 0, none⟩), .pointer (some ⟨h + 1, 0, none⟩), .pointer (some ⟨h + 4, 0, none⟩)] W fun e w' => e = .returned (.tuple #[]) ∧ ∃ v'', VB h w0 w' v'' (addVs (addVs L (Tm.vss (l.take k))) u.vs) (addVs (addVs L (Tm.vss (l.take k))) u.vs)) := fun W hW => CX.out _ W v' _ (HW.out.below hW) HU.out HO.out hbb
        clear hta CX hb hcc hbb
        go_wp2_with (first | (go_at_call 63; ((with_reducible refine (CC.out _ (HZ2.out _)).mono ?_); rintro e W2 ⟨rfl, v2, bb⟩; have BB := Lib.hid bb; clear bb)))
        go_roundg (l.length - (k + 1))
        case measure => have := HN2.out; omega
        case rel => exact ⟨k + 1, v2, by omega, by go_num, rfl, Lib.hid (by rw [HD.out, addVs_append]; exact BB.out)⟩
      · obtain rfl : k = l.length := by omega
        go_wp2
        go_end0
        exact ⟨rfl, v', by rw [HKK.out, HV.out, ← Tm.vss_take_end]; exact HW.out⟩
end Go.Proofs.Ytmffobadnmkpbaa
