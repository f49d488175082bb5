/-
  A LIST OF TERMS OF THE CALL'S OWN THAT GROWS: by one term, by a list of terms; one term stored into it. Over any program.
-/
import Derived.Test.YtmffobadnmkpbaaKpars1
import Derived.Maps.AppendAt
namespace Go.Proofs.Ytmffobadnmkpbaa
open Go.RowKit

/-- 'append(out, s...)', out the call's own, s whatever slice: telling where it lies -/
theorem wpList_append_slX {P : Program} {w0 : World} {ops : Array Oper} {rest : List Oper} {o : Oper} {a : Act} {Q : Exit → Act → World → Prop} (hgd : o.guard = none) (s x : Operand) (t : TypeId)
    (ho : o.op = .call { callee := .builtin .append, args := #[s, x], argTypes := #[t, t] })
    (base : Nat) (e : TypeId) (i : TypeInfo) (z : Value) (size bytes : Nat) (ht : P.underlying t = some (.slice e)) (hi : P.info? e = some i) (hz : i.zero = some z)
    (hsize : i.size = size) (hby : i.bytes = bytes) (hzs : z.cells.size = size) (hsz : 0 < size)
    (v : Value) (n : Nat) (xs : List Value) (hs : a.eval s = v) (hown : w0.ownsRow base e size v n xs)
    (vx : Value) (m : Nat) (ys : List Value) (hx : a.eval x = vx) (hsl : SlAt w0 size vx m ys) (h1 : ∀ u ∈ ys, u.oneCell' = true)
    (hbytes : (n + m) * bytes ≤ 140737488355328 ∧ n + m ≤ 140737488355328) (hbase : base ≤ w0.heap.size)
    (h : ∀ v' w', w'.ownsRow base e size v' (n + m) (xs ++ ys) → Below base w0 w' → KeepsBut w0 w' v → (v'.ownBlock = v.ownBlock ∨ v'.ownBlock = some w0.heap.size) → wpList P ops Q rest (a.put o.dst v') w') :
    wpList P ops Q (o :: rest) a w0 := by
  obtain ⟨hl, ao, cap, rfl, h2, h3, h5, h4⟩ := hsl
  cases ao with
  | none =>
    obtain rfl := h5 rfl
    obtain rfl : m = 0 := by omega
    obtain rfl : ys = [] := List.eq_nil_of_length_eq_zero (by omega)
    refine wpList_append_own_none hgd s x t ho base e i size ht hi v n xs hs hown hx ?_
    exact h v w0 (by simpa using hown) (Below.refl _ _) (fun _ _ _ => rfl) (.inl rfl)
  | some ad =>
    refine wpList_append_own_at w0 hgd s x t ho base e i z size bytes ht hi hz hsize hby hzs hsz v n xs hs hown ad m cap ys hx hl (fun j u hj => ?_) h1 (by unfold maxLen; omega) hbytes.1 hbase (fun v' w' r1 r2 _ r5 => h v' w' r1 ?_ (fun b hb hne => r2.block b hb (fun he => hne he.symm)) r5)
    · have hj' : j < m * size := by rw [← hl]; exact (List.getElem?_eq_some_iff.1 hj).1
      obtain ⟨b, off, he, _, hc⟩ := h4 (by omega)
      injection he with he; subst he
      rw [Go.WideShapes.add_plain, hc j hj', hj]
    · exact (Below.refl base w0).grown r2 hbase (ownBlock_ge hown)

/-- a list of terms in a row of the call's own; the terms' arguments lie elsewhere, in blocks that are such -/
structure OwnTs (p : Nat → Prop) (base : Nat) (w : World) (v : Value) (L : List (Tm × Value)) : Prop where
  own : w.ownsRow base 24 4 v L.length (tmCs L)
  tms : ∀ x ∈ L, TmAt (fun b => v.ownBlock ≠ some b ∧ p b) w x.1 x.2
theorem OwnTs.below {p : Nat → Prop} {base : Nat} {w w' : World} {v : Value} {L : List (Tm × Value)} (h : OwnTs p base w v L) (hb : Below w.heap.size w w') : OwnTs p base w' v L :=
  ⟨own_below h.own hb, fun x hx => (h.tms x hx).grow hb fun _ _ h => h⟩
theorem OwnTs.weaken {p p' : Nat → Prop} {base base' : Nat} {w : World} {v : Value} {L : List (Tm × Value)} (h : OwnTs p base w v L) (hb : base' ≤ base) (hp : ∀ b, p b → p' b) : OwnTs p' base' w v L := by
  refine ⟨⟨h.own.1, ?_⟩, fun x hx => (h.tms x hx).mono fun b _ hb' => ⟨⟨hb'.1, hp b hb'.2⟩, rfl⟩⟩
  rcases h.own.2 with hn | ⟨g, cap, cur, e, hg, rest⟩
  · exact .inl hn
  · exact .inr ⟨g, cap, cur, e, Nat.le_trans hb hg, rest⟩
theorem OwnTs.at {p : Nat → Prop} {base : Nat} {w : World} {v : Value} {L : List (Tm × Value)} (h : OwnTs p base w v L) : TsAt (fun _ => True) w v (L.map Prod.fst) :=
  TsAt.of_sl (SlAt.of_own h.own) (fun _ _ => trivial) (fun x hx => (h.tms x hx).any)
theorem OwnTs.shape {p : Nat → Prop} {base : Nat} {w : World} {v : Value} {L : List (Tm × Value)} (h : OwnTs p base w v L) : ∃ ao cap, v = .slice ao L.length cap ∧ L.length ≤ cap ∧ cap ≤ maxLen := (SlAt.of_own h.own).shape
/-- terms stay where a row that is none of theirs grows -/
theorem TmAt.keptBut {p : Nat → Prop} {w w' : World} {v v' : Value} {t : Tm} {a : Value} (h : TmAt (fun b => v.ownBlock ≠ some b ∧ p b) w t a) (hk : KeepsBut w w' v) (hp : ∀ g, v'.ownBlock = some g → v.ownBlock = some g ∨ w.heap.size ≤ g) : TmAt (fun b => v'.ownBlock ≠ some b ∧ p b) w' t a :=
  h.mono fun b hb hp' => ⟨⟨fun he => by rcases hp b he with e | e; (· exact hp'.1 e); (· omega), hp'.2⟩, hk b hb hp'.1⟩
theorem lies_or {w : World} {v v' : Value} (h : v'.ownBlock = v.ownBlock ∨ v'.ownBlock = some w.heap.size) : ∀ g, v'.ownBlock = some g → v.ownBlock = some g ∨ w.heap.size ≤ g := fun g hg => by
  rcases h with e | e
  · exact .inl (e ▸ hg)
  · rw [e] at hg; simp at hg; exact .inr (by omega)
theorem lies_at {w : World} {v : Value} {g n cap : Nat} (h : v.ownBlock = some g ∨ w.heap.size ≤ g) : ∀ k, (Value.slice (some ⟨g, 0, none⟩) n cap).ownBlock = some k → v.ownBlock = some k ∨ w.heap.size ≤ k := fun k hk => by
  have e : g = k := by simpa [Value.ownBlock] using hk
  subst e; exact h
theorem OwnTs.grow {p : Nat → Prop} {base : Nat} {w w' : World} {v v' : Value} {L X : List (Tm × Value)} (h : OwnTs p base w v L) (hX : ∀ x ∈ X, TmAt (fun b => v.ownBlock ≠ some b ∧ p b) w x.1 x.2)
    (ho : w'.ownsRow base 24 4 v' (L.length + X.length) (tmCs L ++ tmCs X)) (hk : KeepsBut w w' v) (hp : ∀ g, v'.ownBlock = some g → v.ownBlock = some g ∨ w.heap.size ≤ g) : OwnTs p base w' v' (L ++ X) := by
  refine ⟨by rw [tmCs_append]; simpa using ho, fun x hx => ?_⟩
  rcases List.mem_append.1 hx with hx | hx
  · exact (h.tms x hx).keptBut hk hp
  · exact (hX x hx).keptBut hk hp
/-- a term pushed by 'append' at one element laid just before -/
theorem OwnTs.push {p : Nat → Prop} {base : Nat} {w w' : World} {v : Value} {L : List (Tm × Value)} {t : Tm} {a : Value} {g cap : Nat} (h : OwnTs p base w v L) (ht : TmAt (fun b => v.ownBlock ≠ some b ∧ p b) w t a)
    (ho : w'.ownsRow base 24 4 (.slice (some ⟨g, 0, none⟩) (L.length + 1) cap) (L.length + 1) (tmCs L ++ (#[.int .i64 t.kind, .int .i64 t.num, .string t.name, a] : Array Value).toList)) (hk : KeepsBut w w' v) (hp : v.ownBlock = some g ∨ w.heap.size ≤ g) : OwnTs p base w' (.slice (some ⟨g, 0, none⟩) (L.length + 1) cap) (L ++ [(t, a)]) :=
  h.grow (X := [(t, a)]) (fun x hx => by simp only [List.mem_singleton] at hx; subst hx; exact ht) (by simpa [tmCs, tmC] using ho) hk (lies_at hp)
theorem OwnTs.made (p : Nat → Prop) (w : World) : OwnTs p w.heap.size (w.alloc (.cells #[] 24)) (.slice (some ⟨w.heap.size, 0, none⟩) 0 0) [] :=
  ⟨World.ownsRow_made (base := w.heap.size) (size := 4) (e := 24) w #[] 0 (by simp) (by decide) rfl, by simp⟩
theorem OwnTs.none (p : Nat → Prop) (base : Nat) (w : World) : OwnTs p base w (.slice Option.none 0 0) [] := ⟨⟨rfl, .inl ⟨rfl, rfl⟩⟩, by simp⟩
/-- what returns such a list of terms, in new memory -/
def RetOwnT (p : Nat → Prop) (G : List Tm) (w : World) (e : Ending) (w' : World) : Prop := ∃ ao cap Lv, e = .returned (.slice ao Lv.length cap) ∧ OwnTs (fun b => (p b ∧ b < w.heap.size) ∨ w.heap.size ≤ b) w.heap.size w' (.slice ao Lv.length cap) Lv ∧ Lv.map Prod.fst = G ∧ Below w.heap.size w w'
/-- a store into the row itself -/
theorem own_store {w : World} {base : Nat} {e : TypeId} {size g n cap : Nat} {xs : List Value} (h : w.ownsRow base e size (.slice (some ⟨g, 0, none⟩) n cap) n xs) (i : Nat) (_hi : i < n * size) (u : Value) :
    (w.setCell ⟨g, i, none⟩ u).ownsRow base e size (.slice (some ⟨g, 0, none⟩) n cap) n (xs.set i u) := by
  refine ⟨by rw [List.length_set]; exact h.1, .inr ?_⟩
  rcases h.2 with ⟨he, _⟩ | ⟨g', cap', cur, he, hg, hgg, h1, h2, h3, h4⟩
  · cases he
  · simp only [Value.slice.injEq, Option.some.injEq, Addr.mk.injEq, and_true] at he
    obtain ⟨rfl, _, rfl⟩ := he
    refine ⟨g, cap, cur.setIfInBounds i u, rfl, hg, ?_, h1, h2, by simpa using h3, ?_⟩
    · simp only [World.setCell]
      rw [Array.getElem?_modify, if_pos rfl, hgg]; rfl
    · rw [← h4, Array.toList_setIfInBounds, List.take_set]
end Go.Proofs.Ytmffobadnmkpbaa
