/-
  TWO LISTS THAT GROW SIDE BY SIDE: sets and integers, in blocks of their own; plain, no walk.
-/
import Derived.Test.YtajooiainglpmaaGreatKlin2
import Derived.Test.YtajooiainglpmaaGreatKdom4
import Derived.Test.YtajooiainglpmaaGreatKonce2
namespace Go.Proofs.YtajooiainglpmaaGreat
open Go.RowKit

/-- a list of sets and a list of integers that the call has made, none in the other's block -/
structure TwoL (w : World) (B : Nat) (o1 o2 : Value) (ds : Ds) (ys : List Int) (us : List Value) : Prop where
  app : DsApp w B o1 ds us
  own : w.ownsRow B 3 1 o2 ys.length (ys.map (Value.int .i64))
  ap : Apart o1 o2
  aps : ∀ j, (hj : j < ds.length) → ∃ u, us[j]? = some u ∧ (ds[j] ≠ [] → Apart u o2)
theorem TwoL.below {w w' : World} {B : Nat} {o1 o2 : Value} {ds : Ds} {ys : List Int} {us : List Value} (h : TwoL w B o1 o2 ds ys us) (hb : Below w.heap.size w w') : TwoL w' B o1 o2 ds ys us :=
  ⟨h.app.below hb, own_below h.own hb, h.ap, h.aps⟩
theorem TwoL.ints {w w' : World} {B g cap : Nat} {o1 o2 : Value} {ds : Ds} {ys : List Int} {us : List Value} (h : TwoL w B o1 o2 ds ys us) (n : Int)
    (ho : w'.ownsRow B 3 1 (.slice (some ⟨g, 0, none⟩) (ys.length + 1) cap) (ys.length + 1) (ys.map (Value.int .i64) ++ [.int .i64 n])) (hk : KeepsBut w w' o2) (hg : o2.ownBlock = some g ∨ w.heap.size ≤ g) :
    TwoL w' B o1 (.slice (some ⟨g, 0, none⟩) (ys.length + 1) cap) ds (ys ++ [n]) us := by
  have hfar : ∀ {x : Value}, Apart x o2 → (∀ b, x.ownBlock = some b → b < w.heap.size) → Apart x (.slice (some ⟨g, 0, none⟩) (ys.length + 1) cap) := fun {x} h0 hx b hb he => by
    have hb' : g = b := by simpa [Value.ownBlock] using he
    subst hb'
    rcases hg with h1 | h1
    · exact h0 g hb h1
    · have := hx g hb; omega
  have hblk : ∀ j, (hj : j < ds.length) → ∀ u, us[j]? = some u → ds[j] ≠ [] → ∀ b, u.ownBlock = some b → b < w.heap.size := fun j hj u hu hne => by
    obtain ⟨u', e, r, _⟩ := h.app.2.2 j hj
    rw [hu] at e; cases e
    exact r.blk hne
  refine ⟨⟨h.app.1, own_kept h.app.2.1 hk h.ap, fun j hj => ?_⟩, by rw [List.length_append, List.map_append]; exact ho, hfar h.ap (fun b hb => (h.app.2.1.lt b hb).2), fun j hj => ?_⟩
  · obtain ⟨u, e, r, c⟩ := h.app.2.2 j hj
    obtain ⟨u', e', c'⟩ := h.aps j hj
    rw [e] at e'; cases e'
    exact ⟨u, e, r.keptBut hk c', c⟩
  · obtain ⟨u', e', c'⟩ := h.aps j hj
    exact ⟨u', e', fun hne => hfar (c' hne) (hblk j hj u' e' hne)⟩
theorem TwoL.sets {w w' : World} {B g cap : Nat} {o1 o2 u : Value} {ds : Ds} {ys : List Int} {us : List Value} {d : List Rg} (h : TwoL w B o1 o2 ds ys us) (hu : RgAt w u d) (ha : d ≠ [] → Apart u o1) (ha2 : d ≠ [] → Apart u o2)
    (ho : w'.ownsRow B 22 1 (.slice (some ⟨g, 0, none⟩) (ds.length + 1) cap) (ds.length + 1) (us ++ [u])) (hk : KeepsBut w w' o1) (hg : o1.ownBlock = some g ∨ w.heap.size ≤ g) :
    TwoL w' B (.slice (some ⟨g, 0, none⟩) (ds.length + 1) cap) o2 (ds ++ [d]) ys (us ++ [u]) := by
  refine ⟨h.app.push hu ha ho hk hg, own_kept h.own hk h.ap.symm, fun b hb he => ?_, fun j hj => ?_⟩
  · have hb' : g = b := by simpa [Value.ownBlock] using hb
    subst hb'
    rcases hg with h1 | h1
    · exact h.ap g h1 he
    · have := (h.own.lt g he).2; omega
  · rw [List.length_append, List.length_singleton] at hj
    by_cases hjl : j < ds.length
    · obtain ⟨u', e', c'⟩ := h.aps j hjl
      refine ⟨u', by rw [List.getElem?_append_left (by rw [h.app.1]; exact hjl)]; exact e', ?_⟩
      rw [List.getElem_append_left hjl]; exact c'
    · obtain rfl : j = ds.length := by omega
      refine ⟨u, by rw [List.getElem?_append_right (by rw [h.app.1]; exact Nat.le_refl _), h.app.1]; simp, ?_⟩
      rw [List.getElem_append_right (Nat.le_refl _)]; simpa using ha2
theorem single_snoc (ys : List Int) (n : Int) : single (ys ++ [n]) = single ys ++ [[(n, n)]] := by simp [single]
/-- a set of one integer, laid in a new block, is none of two older lists -/
theorem TwoL.one {w w' : World} {B g1 g2 c1 c2 : Nat} {o1 o2 : Value} {ys : List Int} {us : List Value} {n : Int} {T : TypeId} (h : TwoL w B o1 o2 (single ys) ys us) {W1 : World}
    (ho2 : W1.ownsRow B 3 1 (.slice (some ⟨g2, 0, none⟩) (ys.length + 1) c2) (ys.length + 1) (ys.map (Value.int .i64) ++ [.int .i64 n])) (hk2 : KeepsBut w W1 o2) (hg2 : o2.ownBlock = some g2 ∨ w.heap.size ≤ g2)
    (ho1 : w'.ownsRow B 22 1 (.slice (some ⟨g1, 0, none⟩) (ys.length + 1) c1) (ys.length + 1) (us ++ [.slice (some ⟨W1.heap.size, 0, none⟩) 1 1]))
    (hk1 : KeepsBut (W1.alloc (.cells #[.int .i64 n, .int .i64 n] T)) w' o1) (hg1 : o1.ownBlock = some g1 ∨ (W1.alloc (.cells #[.int .i64 n, .int .i64 n] T)).heap.size ≤ g1) :
    TwoL w' B (.slice (some ⟨g1, 0, none⟩) (ys.length + 1) c1) (.slice (some ⟨g2, 0, none⟩) (ys.length + 1) c2) (single (ys ++ [n])) (ys ++ [n]) (us ++ [.slice (some ⟨W1.heap.size, 0, none⟩) 1 1]) := by
  have h1 := h.ints n ho2 hk2 hg2
  have h2 := h1.below ((Below.refl _ _).alloc (Nat.le_refl _) (.cells #[.int .i64 n, .int .i64 n] T))
  rw [single_snoc]
  have hs : (single ys).length = ys.length := single_len ys
  have := TwoL.sets (g := g1) (cap := c1) (d := [(n, n)]) h2 (rgAt_lit2 W1 (n, n) T) (fun _ => apart_made h1.app.2.1 (fun b hb => by simp [Value.ownBlock] at hb; omega)) (fun _ => apart_made h1.own (fun b hb => by simp [Value.ownBlock] at hb; omega))
    (by rw [hs]; exact ho1) hk1 hg1
  rw [hs] at this
  exact this
end Go.Proofs.YtajooiainglpmaaGreat
