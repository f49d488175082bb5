/-
  LISTS OF SETS IN MEMORY: slices of slices of ranges; kept by whatever only makes memory; an own one, whose places are turned.
-/
import Derived.Test.YtkhiogcdamjocaaRg
import Derived.Test.YtkhiogcdamjocaaLinP
namespace Go.Proofs.Ytkhiogcdamjocaa
open Go.RowKit

theorem own_below {w w' : World} {B e size n : Nat} {v : Value} {xs : List Value} (h : w.ownsRow B e size v n xs) (hb : Below w.heap.size w w') : w'.ownsRow B e size v n xs := by
  refine ⟨h.1, ?_⟩
  rcases h.2 with hn | ⟨g, cap, cur, rfl, hg, hgg, rest⟩
  · exact .inl hn
  · exact .inr ⟨g, cap, cur, rfl, hg, by rw [hb.block g (Array.getElem?_eq_some_iff.1 hgg).1]; exact hgg, rest⟩
def DsAt (w : World) (v : Value) (ds : Ds) : Prop :=
  ∃ us : List Value, us.length = ds.length ∧ SlAt w 1 v ds.length us ∧ ∀ j, (hj : j < ds.length) → ∃ u, us[j]? = some u ∧ RgAt w u ds[j]
theorem DsAt.below {w w' : World} {v : Value} {ds : Ds} (h : DsAt w v ds) (hb : Below w.heap.size w w') : DsAt w' v ds := by
  obtain ⟨us, h1, h2, h3⟩ := h
  exact ⟨us, h1, h2.below hb, fun j hj => by obtain ⟨u, a, b⟩ := h3 j hj; exact ⟨u, a, b.below hb⟩⟩
theorem DsAt.drewN {w : World} {v : Value} {ds : Ds} (h : DsAt w v ds) (q : Nat) : DsAt (w.drewN q) v ds := h
theorem DsAt.alloc {w : World} {v : Value} {ds : Ds} (h : DsAt w v ds) (o : Obj) : DsAt (w.alloc o) v ds := h.below ((Below.refl _ _).alloc (Nat.le_refl _) o)
theorem DsAt.shape {w : World} {v : Value} {ds : Ds} (h : DsAt w v ds) : ∃ ao cap, v = .slice ao ds.length cap ∧ ds.length ≤ cap ∧ cap ≤ maxLen := by
  obtain ⟨us, h1, h2, h3⟩ := h; exact h2.shape
theorem DsAt.nil {w : World} : DsAt w (.slice none 0 0) [] := ⟨[], rfl, SlAt.nil, fun j hj => by simp at hj⟩
theorem DsAt.at {w : World} {v : Value} {ds : Ds} (h : DsAt w v ds) (hp : 0 < ds.length) :
    ∃ b off cap, v = .slice (some ⟨b, off, none⟩) ds.length cap ∧ ds.length ≤ cap ∧ b < w.heap.size ∧
      ∀ j, (hj : j < ds.length) → ∃ u, w.cell? ⟨b, off + j, none⟩ = some u ∧ RgAt w u ds[j] := by
  obtain ⟨us, h1, h2, h3⟩ := h
  obtain ⟨b, off, cap, rfl, a1, _, a2, a3⟩ := SlAt.pos h2 (by omega)
  refine ⟨b, off, cap, rfl, a1, a2, fun j hj => ?_⟩
  obtain ⟨u, e1, e2⟩ := h3 j hj
  exact ⟨u, by rw [a3 j (by omega), e1], e2⟩
/-- one place of it, known by its slice's own parts -/
theorem DsAt.get {w : World} {ao : Option Addr} {n cap : Nat} {ds : Ds} (h : DsAt w (.slice ao n cap) ds) (j : Nat) (hj : j < ds.length) :
    ∃ b off ao' cap', ao = some ⟨b, off, none⟩ ∧ ds.length ≤ cap ∧ b < w.heap.size ∧ n = ds.length ∧ w.cell? ⟨b, off + j, none⟩ = some (.slice ao' ds[j].length cap') ∧ RgAt w (.slice ao' ds[j].length cap') ds[j] := by
  obtain ⟨b, off, c', he, a1, a2, a3⟩ := h.at (by omega)
  simp only [Value.slice.injEq] at he
  obtain ⟨rfl, rfl, rfl⟩ := he
  obtain ⟨u, e1, e2⟩ := a3 j hj
  obtain ⟨ao', cap', rfl, _⟩ := e2.shape
  exact ⟨b, off, ao', cap', rfl, a1, a2, rfl, e1, e2⟩

/-- a cell that holds a slice is none of a set's -/
theorem RgAt.setSlice {w : World} {v : Value} {rs : List Rg} (h : RgAt w v rs) {a : Addr} {ao : Option Addr} {n c : Nat} (hs : w.cell? a = some (.slice ao n c)) (u : Value) : RgAt (w.setCell a u) v rs := by
  obtain ⟨h1, ao0, cap, rfl, h2, h3, h5, h4⟩ := h
  refine ⟨h1, ao0, cap, rfl, h2, h3, h5, fun hp => ?_⟩
  obtain ⟨b, off, rfl, hlt, hc⟩ := h4 hp
  refine ⟨b, off, rfl, by simpa [World.setCell] using hlt, fun j hj => ?_⟩
  rw [← hc j hj]
  have hj2 : j / 2 < rs.length := by omega
  have hint : ∃ z, (cellsR rs)[j]? = some (.int .i64 z) := by
    obtain ⟨a1, a2⟩ := cellsR_at rs (j / 2) hj2
    rcases (show j % 2 = 0 ∨ j % 2 = 1 by omega) with h | h
    · exact ⟨_, by rw [show j = j / 2 * 2 by omega]; exact a1⟩
    · exact ⟨_, by rw [show j = j / 2 * 2 + 1 by omega]; exact a2⟩
  obtain ⟨z, hz⟩ := hint
  by_cases hbk : b = a.block
  · exact World.cell?_setCell_other _ _ _ _ (fun he => by
      have := hc j hj
      rw [← he, hs, hz] at this
      cases this)
  · exact World.cell?_of_block (Below.heap_setCell _ _ _ _ hbk)

/-- an own list of sets -/
def DsOwn (w : World) (base : Nat) (v : Value) (ds : Ds) : Prop :=
  ∃ us : List Value, us.length = ds.length ∧ w.ownsRow base 46 1 v ds.length us ∧ ∀ j, (hj : j < ds.length) → ∃ u, us[j]? = some u ∧ RgAt w u ds[j]
theorem DsOwn.at {w : World} {base : Nat} {v : Value} {ds : Ds} (h : DsOwn w base v ds) : DsAt w v ds := by
  obtain ⟨us, h1, h2, h3⟩ := h
  exact ⟨us, h1, SlAt.of_own h2, h3⟩
theorem DsOwn.below {w w' : World} {base : Nat} {v : Value} {ds : Ds} (h : DsOwn w base v ds) (hb : Below w.heap.size w w') : DsOwn w' base v ds := by
  obtain ⟨us, h1, h2, h3⟩ := h
  exact ⟨us, h1, own_below h2 hb, fun j hj => by obtain ⟨u, a, b⟩ := h3 j hj; exact ⟨u, a, b.below hb⟩⟩
theorem DsOwn.drewN {w : World} {base : Nat} {v : Value} {ds : Ds} (h : DsOwn w base v ds) (q : Nat) : DsOwn (w.drewN q) base v ds := h
theorem DsOwn.get {w : World} {base : Nat} {v : Value} {ds : Ds} (h : DsOwn w base v ds) (j : Nat) (hj : j < ds.length) :
    ∃ g cap ao' cap', v = .slice (some ⟨g, 0, none⟩) ds.length cap ∧ base ≤ g ∧ ds.length ≤ cap ∧ g < w.heap.size ∧ w.cell? ⟨g, j, none⟩ = some (.slice ao' ds[j].length cap') ∧ w.frozen? ⟨g, j, none⟩ = false ∧ RgAt w (.slice ao' ds[j].length cap') ds[j] := by
  obtain ⟨us, h1, h2, h3⟩ := h
  obtain ⟨u, e1, e2⟩ := h3 j hj
  obtain ⟨ao', cap', rfl, _⟩ := e2.shape
  have h2' := h2
  rcases h2.2 with ⟨_, h0⟩ | ⟨g, cap, cur, rfl, hb, hg, hn, _⟩
  · omega
  · exact ⟨g, cap, ao', cap', rfl, hb, hn, (Array.getElem?_eq_some_iff.1 hg).1, by rw [h2'.cellAt j (by omega), e1], h2'.frozenAt j, e2⟩
/-- a place is turned -/
theorem DsOwn.set {w : World} {base : Nat} {g cap : Nat} {ds : Ds} (h : DsOwn w base (.slice (some ⟨g, 0, none⟩) ds.length cap) ds) (j : Nat) (hj : j < ds.length) {u : Value} {d : List Rg} (hu : RgAt w u d) :
    DsOwn (w.setCell ⟨g, j, none⟩ u) base (.slice (some ⟨g, 0, none⟩) ds.length cap) (ds.set j d) := by
  obtain ⟨g', cap', ao', c', he, _, _, _, hc, _, _⟩ := h.get j hj
  simp only [Value.slice.injEq, Option.some.injEq, Addr.mk.injEq] at he
  obtain ⟨⟨rfl, _, _⟩, _, rfl⟩ := he
  obtain ⟨us, h1, h2, h3⟩ := h
  refine ⟨us.set j u, by simp [h1], ?_, fun i hi => ?_⟩
  · rw [List.length_set]
    exact (h2.stored j u).1
  · rw [List.length_set] at hi
    by_cases hij : j = i
    · subst hij
      exact ⟨u, by rw [List.getElem?_set_self (by omega)], by rw [List.getElem_set_self]; exact hu.setSlice hc u⟩
    · obtain ⟨x, e1, e2⟩ := h3 i hi
      exact ⟨x, by rw [List.getElem?_set_ne hij]; exact e1, by rw [List.getElem_set_ne hij]; exact e2.setSlice hc u⟩
end Go.Proofs.Ytkhiogcdamjocaa
