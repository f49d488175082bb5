/-
  STRUCTS OF ANY NUMBER OF CELLS IN A BLOCK OF THEIR OWN. Over any program.
-/
import Derived.Test.YtkhiogcdamjocaaApp
namespace Go.Proofs.Ytkhiogcdamjocaa
open Go.RowKit

def BoxL (w : World) (b : Nat) (cs : List Value) : Prop := ∀ j, j < cs.length → w.cell? ⟨b, j, none⟩ = cs[j]? ∧ w.frozen? ⟨b, j, none⟩ = false
theorem BoxL.lt {w : World} {b : Nat} {cs : List Value} (h : BoxL w b cs) (hp : 0 < cs.length) : b < w.heap.size := by
  obtain ⟨h1, _⟩ := h 0 hp
  rw [List.getElem?_eq_getElem hp] at h1
  exact World.block_lt_of_cell? w ⟨b, 0, none⟩ h1
theorem BoxL.mk' (w : World) (cs : Array Value) (T : TypeId) : BoxL (w.alloc (.cells cs T)) w.heap.size cs.toList := fun j hj => by
  refine ⟨?_, World.frozen?_alloc_new w _ T j⟩
  simp
theorem BoxL.block {w w' : World} {b : Nat} {cs : List Value} (h : BoxL w b cs) (e : w'.heap[b]? = w.heap[b]?) : BoxL w' b cs := fun j hj =>
  ⟨(World.cell?_of_block (a := ⟨b, j, none⟩) e).trans (h j hj).1, (World.frozen?_of_block (a := ⟨b, j, none⟩) e).trans (h j hj).2⟩
theorem BoxL.below {w w' : World} {b : Nat} {cs : List Value} (h : BoxL w b cs) {B : Nat} (hb : Below B w w') (hB : b < B) : BoxL w' b cs := h.block (hb.block b hB)
theorem BoxL.kept {w w' : World} {b : Nat} {cs : List Value} (h : BoxL w b cs) (hp : 0 < cs.length) {v : Value} (hk : KeepsBut w w' v) (hne : v.ownBlock ≠ some b) : BoxL w' b cs := h.block (hk b (h.lt hp) hne)
theorem BoxL.far {w : World} {b : Nat} {cs : List Value} (h : BoxL w b cs) {a : Addr} (ha : b ≠ a.block) (u : Value) : BoxL (w.setCell a u) b cs := h.block (Below.heap_setCell w a u b ha)
theorem BoxL.set {w : World} {b : Nat} {cs : List Value} (h : BoxL w b cs) (k : Nat) (hk : k < cs.length) (u : Value) : BoxL (w.setCell ⟨b, k, none⟩ u) b (cs.set k u) := fun j hj => by
  rw [List.length_set] at hj
  refine ⟨?_, by rw [World.frozen?_setCell]; exact (h j hj).2⟩
  by_cases e : k = j
  · subst e
    have h1 := (h k hk).1
    rw [List.getElem?_eq_getElem hk] at h1
    rw [World.cell?_setCell_same _ _ _ h1, List.getElem?_set_self hk]
  · rw [World.cell?_setCell_other _ _ _ _ (fun he => e (by injection he)), (h j hj).1, List.getElem?_set_ne e]
theorem BoxL.get {w : World} {b : Nat} {cs : List Value} (h : BoxL w b cs) (k : Nat) {u : Value} (hk : cs[k]? = some u) : w.cell? ⟨b, k, none⟩ = some u ∧ w.frozen? ⟨b, k, none⟩ = false := by
  obtain ⟨hl, rfl⟩ := List.getElem?_eq_some_iff.1 hk
  obtain ⟨h1, h2⟩ := h k hl
  exact ⟨by rw [h1, List.getElem?_eq_getElem hl], h2⟩
/-- a row that is none of another's -/
def Apart (u v : Value) : Prop := ∀ b, u.ownBlock = some b → v.ownBlock ≠ some b
theorem Apart.symm {u v : Value} (h : Apart u v) : Apart v u := fun b h1 h2 => h b h2 h1
theorem own_kept {w w' : World} {base : Nat} {e : TypeId} {size : Nat} {v u : Value} {n : Nat} {xs : List Value} (h : w.ownsRow base e size v n xs) (hk : KeepsBut w w' u) (ha : Apart v u) : w'.ownsRow base e size v n xs := by
  refine ⟨h.1, ?_⟩
  rcases h.2 with hn | ⟨g, cap, cur, rfl, hg, hgg, rest⟩
  · exact .inl hn
  · exact .inr ⟨g, cap, cur, rfl, hg, by rw [hk g (Array.getElem?_eq_some_iff.1 hgg).1 (ha g rfl)]; exact hgg, rest⟩
theorem apart_new {w : World} {base : Nat} {e : TypeId} {size : Nat} {v u : Value} {n : Nat} {xs : List Value} (h : w.ownsRow base e size u n xs) {g c m : Nat} (ha : Apart v u) (hg : v.ownBlock = some g ∨ g = w.heap.size) : Apart (.slice (some ⟨g, 0, none⟩) m c) u := fun b hb he => by
  have hb' : g = b := by simpa [Value.ownBlock] using hb
  subst hb'
  rcases hg with h1 | h1
  · exact ha g h1 he
  · have := (h.lt g he).2; omega
end Go.Proofs.Ytkhiogcdamjocaa
