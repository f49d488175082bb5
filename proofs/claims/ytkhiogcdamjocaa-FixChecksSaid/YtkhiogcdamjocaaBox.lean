/-
  SMALL STRUCTS IN A BLOCK OF THEIR OWN: their cells and marks, kept by what only makes memory. Over any program.
-/
import Derived.Test.YtkhiogcdamjocaaLib
namespace Go.Proofs.Ytkhiogcdamjocaa
open Go.RowKit

structure Box1 (w : World) (b : Nat) (x : Value) : Prop where
  c0 : w.cell? ⟨b, 0, none⟩ = some x
  f0 : w.frozen? ⟨b, 0, none⟩ = false
structure Box2 (w : World) (b : Nat) (x y : Value) : Prop where
  c0 : w.cell? ⟨b, 0, none⟩ = some x
  c1 : w.cell? ⟨b, 1, none⟩ = some y
  f0 : w.frozen? ⟨b, 0, none⟩ = false
  f1 : w.frozen? ⟨b, 1, none⟩ = false
theorem Box1.lt {w : World} {b : Nat} {x : Value} (h : Box1 w b x) : b < w.heap.size := World.block_lt_of_cell? w ⟨b, 0, none⟩ h.c0
theorem Box2.lt {w : World} {b : Nat} {x y : Value} (h : Box2 w b x y) : b < w.heap.size := World.block_lt_of_cell? w ⟨b, 0, none⟩ h.c0
theorem Box1.mk' (w : World) (x : Value) (T : TypeId) : Box1 (w.alloc (.cells #[x] T)) w.heap.size x := ⟨by simp, World.frozen?_alloc_new w _ T 0⟩
theorem Box2.mk' (w : World) (x y : Value) (T : TypeId) : Box2 (w.alloc (.cells #[x, y] T)) w.heap.size x y := ⟨by simp, by simp, World.frozen?_alloc_new w _ T 0, World.frozen?_alloc_new w _ T 1⟩
theorem Box1.below {w w' : World} {b : Nat} {x : Value} (h : Box1 w b x) {B : Nat} (hb : Below B w w') (hB : b < B) : Box1 w' b x :=
  ⟨(hb.cell (p := ⟨b, 0, none⟩) hB).trans h.c0, (hb.frozen (p := ⟨b, 0, none⟩) hB).trans h.f0⟩
theorem Box2.below {w w' : World} {b : Nat} {x y : Value} (h : Box2 w b x y) {B : Nat} (hb : Below B w w') (hB : b < B) : Box2 w' b x y :=
  ⟨(hb.cell (p := ⟨b, 0, none⟩) hB).trans h.c0, (hb.cell (p := ⟨b, 1, none⟩) hB).trans h.c1, (hb.frozen (p := ⟨b, 0, none⟩) hB).trans h.f0, (hb.frozen (p := ⟨b, 1, none⟩) hB).trans h.f1⟩
theorem Box1.past {w w' : World} {b : Nat} {x : Value} (h : Box1 w b x) (hb : Below w.heap.size w w') : Box1 w' b x := h.below hb h.lt
theorem Box2.past {w w' : World} {b : Nat} {x y : Value} (h : Box2 w b x y) (hb : Below w.heap.size w w') : Box2 w' b x y := h.below hb h.lt
theorem Box1.set {W : World} {b : Nat} {x0 : Value} (h : Box1 W b x0) (x : Value) : Box1 (W.setCell ⟨b, 0, none⟩ x) b x :=
  ⟨World.cell?_setCell_same _ _ _ h.c0, (by rw [World.frozen?_setCell]; exact h.f0)⟩
theorem Box2.set0 {W : World} {b : Nat} {x0 y0 : Value} (h : Box2 W b x0 y0) (x : Value) : Box2 (W.setCell ⟨b, 0, none⟩ x) b x y0 :=
  ⟨World.cell?_setCell_same _ _ _ h.c0, (World.cell?_setCell_other _ _ _ _ (by simp)).trans h.c1, (by rw [World.frozen?_setCell]; exact h.f0), (by rw [World.frozen?_setCell]; exact h.f1)⟩
theorem Box2.set1 {W : World} {b : Nat} {x0 y0 : Value} (h : Box2 W b x0 y0) (y : Value) : Box2 (W.setCell ⟨b, 1, none⟩ y) b x0 y :=
  ⟨(World.cell?_setCell_other _ _ _ _ (by simp)).trans h.c0, World.cell?_setCell_same _ _ _ h.c1, (by rw [World.frozen?_setCell]; exact h.f0), (by rw [World.frozen?_setCell]; exact h.f1)⟩
theorem Box2.later {w W1 : World} {x y : Value} {T : TypeId} (bb : Below (w.alloc (.cells #[x, y] T)).drew.heap.size (w.alloc (.cells #[x, y] T)).drew W1) : Box2 W1 w.heap.size x y :=
  ⟨(bb.cell (p := ⟨w.heap.size, 0, none⟩) (by simp)).trans (by simp), (bb.cell (p := ⟨w.heap.size, 1, none⟩) (by simp)).trans (by simp),
    (bb.frozen (p := ⟨w.heap.size, 0, none⟩) (by simp)).trans (World.frozen?_alloc_new w _ T 0), (bb.frozen (p := ⟨w.heap.size, 1, none⟩) (by simp)).trans (World.frozen?_alloc_new w _ T 1)⟩
theorem Box1.later {w W1 : World} {x : Value} {T : TypeId} (bb : Below (w.alloc (.cells #[x] T)).drew.heap.size (w.alloc (.cells #[x] T)).drew W1) : Box1 W1 w.heap.size x :=
  ⟨(bb.cell (p := ⟨w.heap.size, 0, none⟩) (by simp)).trans (by simp), (bb.frozen (p := ⟨w.heap.size, 0, none⟩) (by simp)).trans (World.frozen?_alloc_new w _ T 0)⟩
end Go.Proofs.Ytkhiogcdamjocaa
