/-
  A REGION THAT DRAWS ITS ORDER, whose calls make memory but tell values that hang on no order: one walk of the text's order. Over any program.
-/
import Derived.Test.YtmffobadnmkpbaaKlib1
import Derived.Deep.QuietTactic
import Derived.BigQuiet
namespace Go.Proofs.Ytmffobadnmkpbaa
open Go.RowKit

/-- a world that is as W was, with more memory -/
def QG (W : World) : Type := { w' : World // Below W.heap.size W w' }
instance {W : World} : Nonempty (QG W) := ⟨⟨W, Below.refl _ _⟩⟩
def QB (W : World) : World → Prop := fun w' => ∃ g : QG W, w' = g.1

theorem QB.below {W w' : World} (h : QB W w') : Below W.heap.size W w' := by obtain ⟨g, rfl⟩ := h; exact g.2
theorem QB.mk {W w' : World} (h : Below W.heap.size W w') : QB W w' := ⟨⟨w', h⟩, rfl⟩

theorem wp_region_below {P : Program} {id : Nat} {Q : Exit → Act → World → Prop} {a : Act} {w : World} {l : List Oper} (hm : P.follows .mixedOrders = true) (hB : Region.lexB .any l.toArray = true)
    (h : wpQuiet P l.toArray (fun w' => ∃ g : QG w, w' = g.1) (fun a' => ∀ w', QB w w' → Q .normal a' w') l a) : (Code.region id l.toArray true).wp P Q a w :=
  wp_region_quiet (C := fun w' => ∃ g : QG w, w' = g.1) hm hB (QB.mk (below_drewN (Below.refl _ w) 1)) (by rw [List.toList_toArray]; exact h)

/-- at a call in such a region -/
theorem qb_call {P : Program} {f : FuncId} {args : Array Value} {W : World} {v : Value} (g : QG W) (h : Calls P f args g.1 fun e w' => e = .returned v ∧ Below g.1.heap.size g.1 w') :
    Calls P f args g.1 fun e w'' => e = .returned v ∧ ∃ g' : QG W, w'' = g'.1 :=
  h.mono fun _ w' ⟨he, hb⟩ => ⟨he, ⟨w', g.2.trans (hb.mono g.2.size)⟩, rfl⟩
theorem qb_same {P : Program} {f : FuncId} {args : Array Value} {W : World} {v : Value} (g : QG W) (h : Calls P f args g.1 fun e w' => e = .returned v ∧ g.1 = w') :
    Calls P f args g.1 fun e w'' => e = .returned v ∧ ∃ g' : QG W, w'' = g'.1 :=
  h.mono fun _ w' ⟨he, hb⟩ => ⟨he, ⟨w', by rw [← hb]; exact g.2⟩, rfl⟩

/-- a cell of the world ahead, in whatever world of the region -/
theorem qb_cell {W : World} {b o : Nat} {u : Value} (h : W.cell? ⟨b, o, none⟩ = some u) : ∀ g : QG W, g.1.cell? ⟨b, o, none⟩ = some u :=
  fun g => (g.2.cell (p := ⟨b, o, none⟩) (World.block_lt_of_cell? W _ h)).trans h
theorem qb_sl {W : World} {k n : Nat} {v : Value} {xs : List Value} (h : SlAt W k v n xs) : ∀ g : QG W, SlAt g.1 k v n xs := fun g => h.below g.2

/-- a struct of four cells, boxed: one name for the world behind it -/
structure Box4 (w : World) (W : World) (a b c d : Value) : Prop where
  c0 : W.cell? ⟨w.heap.size, 0, none⟩ = some a
  c1 : W.cell? ⟨w.heap.size, 1, none⟩ = some b
  c2 : W.cell? ⟨w.heap.size, 2, none⟩ = some c
  c3 : W.cell? ⟨w.heap.size, 3, none⟩ = some d
  below : Below w.heap.size w W
theorem Box4.mk' (w : World) (a b c d : Value) (T : TypeId) : Box4 w (w.alloc (.cells #[a, b, c, d] T)) a b c d :=
  ⟨by simp, by simp, by simp, by simp, (Below.refl _ _).alloc (Nat.le_refl _) _⟩
end Go.Proofs.Ytmffobadnmkpbaa
