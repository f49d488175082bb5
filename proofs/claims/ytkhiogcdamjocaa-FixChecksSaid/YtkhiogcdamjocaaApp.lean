/-
  APPENDS onto a row of the call's own that tell which blocks stay. Over any program.
-/
import Derived.Test.YtkhiogcdamjocaaBox
import Derived.ProofKit
import Derived.Laws.AppendOwnNone
namespace Go.Proofs.Ytkhiogcdamjocaa
open Go.RowKit

def KeepsBut (w0 w' : World) (v : Value) : Prop := ∀ b, b < w0.heap.size → v.ownBlock ≠ some b → w'.heap[b]? = w0.heap[b]?
theorem Box1.kept {w w' : World} {b : Nat} {x : Value} (h : Box1 w b x) {v : Value} (hk : KeepsBut w w' v) (hne : v.ownBlock ≠ some b) : Box1 w' b x := by
  have e := hk b h.lt hne
  exact ⟨(World.cell?_of_block (a := ⟨b, 0, none⟩) e).trans h.c0, (World.frozen?_of_block (a := ⟨b, 0, none⟩) e).trans h.f0⟩
theorem Box2.kept {w w' : World} {b : Nat} {x y : Value} (h : Box2 w b x y) {v : Value} (hk : KeepsBut w w' v) (hne : v.ownBlock ≠ some b) : Box2 w' b x y := by
  have e := hk b h.lt hne
  exact ⟨(World.cell?_of_block (a := ⟨b, 0, none⟩) e).trans h.c0, (World.cell?_of_block (a := ⟨b, 1, none⟩) e).trans h.c1, (World.frozen?_of_block (a := ⟨b, 0, none⟩) e).trans h.f0, (World.frozen?_of_block (a := ⟨b, 1, none⟩) e).trans h.f1⟩
theorem KeepsBut.cell {w w' : World} {v u : Value} {a : Addr} (hk : KeepsBut w w' v) (h : w.cell? a = some u) (hne : v.ownBlock ≠ some a.block) : w'.cell? a = some u :=
  (World.cell?_of_block (hk a.block (World.block_lt_of_cell? w _ h) hne)).trans h
theorem own_ne {w : World} {base : Nat} {e : TypeId} {size : Nat} {v : Value} {n : Nat} {xs : List Value} (h : w.ownsRow base e size v n xs) {b : Nat} (hb : b < base) : v.ownBlock ≠ some b :=
  fun he => by have := (h.lt b he).1; omega

theorem own_far {w : World} {base : Nat} {e : TypeId} {size : Nat} {v : Value} {n : Nat} {xs : List Value} (h : w.ownsRow base e size v n xs) {b : Nat} (hb : w.heap.size ≤ b) : v.ownBlock ≠ some b :=
  fun he => by have := (h.lt b he).2; omega
theorem own_setCell {w : World} {base : Nat} {e : TypeId} {size : Nat} {v : Value} {n : Nat} {xs : List Value} (h : w.ownsRow base e size v n xs) {a : Addr} (ha : a.block < base) (u : Value) : (w.setCell a u).ownsRow base e size v n xs := by
  refine ⟨h.1, ?_⟩
  rcases h.2 with hn | ⟨g, cap, cur, rfl, hg, hgg, rest⟩
  · exact .inl hn
  · exact .inr ⟨g, cap, cur, rfl, hg, by rw [Below.heap_setCell _ _ _ _ (by omega)]; exact hgg, rest⟩
theorem Box1.far {w : World} {b : Nat} {x : Value} (h : Box1 w b x) {a : Addr} (ha : b ≠ a.block) (u : Value) : Box1 (w.setCell a u) b x := by
  have e := Below.heap_setCell w a u b ha
  exact ⟨(World.cell?_of_block (a := ⟨b, 0, none⟩) e).trans h.c0, (World.frozen?_of_block (a := ⟨b, 0, none⟩) e).trans h.f0⟩
theorem Box2.far {w : World} {b : Nat} {x y : Value} (h : Box2 w b x y) {a : Addr} (ha : b ≠ a.block) (u : Value) : Box2 (w.setCell a u) b x y := by
  have e := Below.heap_setCell w a u b ha
  exact ⟨(World.cell?_of_block (a := ⟨b, 0, none⟩) e).trans h.c0, (World.cell?_of_block (a := ⟨b, 1, none⟩) e).trans h.c1, (World.frozen?_of_block (a := ⟨b, 0, none⟩) e).trans h.f0, (World.frozen?_of_block (a := ⟨b, 1, none⟩) e).trans h.f1⟩
theorem cell_far {w : World} {a p : Addr} {v : Value} (h : w.cell? p = some v) (ha : p.block ≠ a.block) (u : Value) : (w.setCell a u).cell? p = some v :=
  (World.cell?_of_block (Below.heap_setCell w a u p.block ha)).trans h
theorem one1 {a : Value} (h : a.oneCell' = true) : ∀ u ∈ (#[a] : Array Value).toList, u.oneCell' = true := by intro u hu; simp at hu; subst hu; exact h
theorem one2 {a b : Value} (h : a.oneCell' = true) (h2 : b.oneCell' = true) : ∀ u ∈ (#[a, b] : Array Value).toList, u.oneCell' = true := by intro u hu; simp at hu; rcases hu with rfl | rfl <;> assumption
/-- 'out = append(out, E{..})', E of 'size' cells, laid in a new block just before -/
theorem wpList_appendK {P : Program} {w0 : World} {ops : Array Oper} {rest : List Oper} {o : Oper} {a : Act} {Q : Exit → Act → World → Prop} (hgd : o.guard = none) (s x : Operand) (t : TypeId)
    (ho : o.op = .call { callee := .builtin .append, args := #[s, x], argTypes := #[t, t] })
    (base : Nat) (e : TypeId) (i : TypeInfo) (z : Value) (size bytes : Nat) (ht : P.underlying t = some (.slice e)) (hi : P.info? e = some i) (hz : i.zero = some z)
    (hsize : i.size = size) (hby : i.bytes = bytes) (hzs : z.cells.size = size) (hsz : 0 < size)
    (v : Value) (n : Nat) (xs : List Value) (hs : a.eval s = v) (hown : w0.ownsRow base e size v n xs) {e' : TypeId}
    (us : Array Value) (hx : a.eval x = .slice (some ⟨w0.heap.size, 0, none⟩) 1 1) (hus : us.size = size) (h1 : ∀ u ∈ us.toList, u.oneCell' = true)
    (hbytes : (n + 1) * bytes ≤ 140737488355328 ∧ n + 1 ≤ 140737488355328) (hbase : base ≤ w0.heap.size)
    (h : ∀ v' w', w'.ownsRow base e size v' (n + 1) (xs ++ us.toList) → Below base w0 w' → KeepsBut w0 w' v → (∀ b, v'.ownBlock = some b → v.ownBlock = some b ∨ w0.heap.size ≤ b ∨ True) → wpList P ops Q rest (a.put o.dst v') w') :
    wpList P ops Q (o :: rest) a (w0.alloc (.cells us e')) := by
  refine wpList_append_own _ hgd s x t ho base e i z size bytes ht hi hz hsize hby hzs hsz v n xs hs (hown.alloc _) ⟨w0.heap.size, 0, none⟩ 1 1 us.toList hx (by simp [hus]) ?_ h1 ?_ hbytes.1 ?_ ?_
  · intro j y hj
    have hadd : ((⟨w0.heap.size, 0, none⟩ : Addr).add j) = ⟨w0.heap.size, 0 + j, none⟩ := Go.WideShapes.add_plain _ _ _
    rw [hadd]
    simpa using hj
  · unfold maxLen; omega
  · simp; omega
  · intro v' w' h1 h2 h3
    refine h v' w' h1 (below_grown hbase h2 (ownBlock_ge hown)) (fun b hb hne => ?_) (fun b _ => .inr (.inr trivial))
    rw [h2.block b (by simp; omega) (fun he => hne he.symm)]
    exact Below.heap_alloc w0 _ b hb
end Go.Proofs.Ytkhiogcdamjocaa
