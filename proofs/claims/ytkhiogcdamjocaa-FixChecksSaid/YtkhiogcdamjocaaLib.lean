/-
  Small laws of my own over any program: append of one new element onto a slice of the call's own.
-/
import Derived.WalkKit
import Derived.WalkSpells
import Derived.WalkLawsBesides
import Derived.Lib.Hide
namespace Go.Proofs.Ytkhiogcdamjocaa
open Go.RowKit

theorem below_grown {base : Nat} {w0 w' : World} {o : Obj} {row : Option Nat} (hb : base ≤ w0.heap.size) (hg : (w0.alloc o).grownBy w' row) (hr : ∀ k, row = some k → base ≤ k) : Below base w0 w' :=
  ((Below.refl base w0).alloc hb o).grown hg (by simp; omega) hr

theorem ownBlock_ge {w : World} {base : Nat} {e : TypeId} {size : Nat} {v : Value} {n : Nat} {xs : List Value} (h : w.ownsRow base e size v n xs) : ∀ k, v.ownBlock = some k → base ≤ k :=
  fun k hk => (h.lt k hk).1

/-- 'out = append(out, x)', x of one cell, laid in a new block just before -/
theorem wpList_append1 {P : Program} {w0 : World} {ops : Array Oper} {rest : List Oper} {o : Oper} {a : Act} {Q : Exit → Act → World → Prop} (hgd : o.guard = none) (s x : Operand) (t : TypeId)
    (ho : o.op = .call { callee := .builtin .append, args := #[s, x], argTypes := #[t, t] })
    (base : Nat) (e : TypeId) (i : TypeInfo) (z : Value) (bytes : Nat) (ht : P.underlying t = some (.slice e)) (hi : P.info? e = some i) (hz : i.zero = some z)
    (hsize : i.size = 1) (hby : i.bytes = bytes) (hzs : z.cells.size = 1)
    (v : Value) (n : Nat) (xs : List Value) (hs : a.eval s = v) (hown : w0.ownsRow base e 1 v n xs) {e' : TypeId}
    (u : Value) (hx : a.eval x = .slice (some ⟨w0.heap.size, 0, none⟩) 1 1) (h1 : u.oneCell' = true)
    (hbytes : (n + 1) * bytes ≤ 140737488355328 ∧ n + 1 ≤ 140737488355328) (hbase : base ≤ w0.heap.size)
    (h : ∀ v' w', w'.ownsRow base e 1 v' (n + 1) (xs ++ [u]) → Below base w0 w' → (w0.alloc (.cells #[u] e')).grownBy w' v.ownBlock → v' ≠ .slice none 0 0 → wpList P ops Q rest (a.put o.dst v') w') :
    wpList P ops Q (o :: rest) a (w0.alloc (.cells #[u] e')) := by
  refine wpList_append_own _ hgd s x t ho base e i z 1 bytes ht hi hz hsize hby hzs (by decide) v n xs hs (hown.alloc _) ⟨w0.heap.size, 0, none⟩ 1 1 [u] hx rfl ?_ ?_ ?_ hbytes.1 ?_ ?_
  · intro j y hj
    match j, hj with
    | 0, hj =>
      simp at hj; subst hj
      simp [Addr.add]
  · intro y hy; simp at hy; subst hy; exact h1
  · unfold maxLen; omega
  · simp; omega
  · intro v' w' h1 h2 h3
    exact h v' w' h1 (below_grown hbase h2 (ownBlock_ge hown)) h2 (fun e => by have := h3.1 e; simp at this)

/-- an owned slice that is not empty: where it lies -/
theorem owns_pos {w : World} {base : Nat} {e : TypeId} {size : Nat} {v : Value} {n : Nat} {xs : List Value} (h : w.ownsRow base e size v n xs) (hn : 0 < n) :
    ∃ g cap, v = .slice (some ⟨g, 0, none⟩) n cap ∧ base ≤ g ∧ ∀ j, j < n * size → w.cell? ⟨g, j, none⟩ = xs[j]? := by
  have h' := h
  rcases h.2 with ⟨_, h0⟩ | ⟨g, cap, cur, rfl, hb, _⟩
  · omega
  · exact ⟨g, cap, rfl, hb, fun j hj => h'.cellAt j hj⟩

theorem ret_bool {a b : Bool} (h : a = b) : Ending.returned (.bool a) = .returned (.bool b) := by rw [h]
theorem ret_int {k : IntKind} {a b : Int} (h : a = b) : Ending.returned (.int k a) = .returned (.int k b) := by rw [h]

/-- a call that only makes memory, behind others -/
theorem carry {P : Program} {f : FuncId} {args : Array Value} {w0 w : World} {x : Ending} (h : Calls P f args w fun e w' => e = x ∧ Below w.heap.size w w') (hB : Below w0.heap.size w0 w) :
    Calls P f args w fun e w' => e = x ∧ Below w0.heap.size w0 w' :=
  h.mono fun _ _ ⟨he, hb⟩ => ⟨he, hB.trans (hb.mono hB.size)⟩

/-- at a call inside a quiet region, behind draws: the callee leaves the world alone -/
theorem quiet_same {P : Program} {f : FuncId} {args : Array Value} {w W : World} {n : Nat} {v : Value} (hW : ∃ m, W = w.drewN (n + m))
    (h : Calls P f args W fun e w' => e = .returned v ∧ W = w') : Calls P f args W fun e w'' => e = .returned v ∧ ∃ m, w'' = w.drewN (n + m) :=
  h.mono fun _ _ ⟨he, hw⟩ => ⟨he, by rw [← hw]; exact hW⟩

/-- a search of a list, one step on -/
theorem fnone {α : Type} (p : α → Bool) (L : List α) (k : Nat) (r : α) (hr : L[k]? = some r) (h : (L.take k).find? p = none) (hp : p r = false) : (L.take (k + 1)).find? p = none := by
  obtain ⟨hk, rfl⟩ := List.getElem?_eq_some_iff.1 hr
  rw [List.take_succ_eq_append_getElem hk, List.find?_append, h]
  simp [hp]
theorem fsome {α : Type} (p : α → Bool) (L : List α) (k : Nat) (r : α) (hr : L[k]? = some r) (h : (L.take k).find? p = none) (hp : p r = true) : L.find? p = some r := by
  obtain ⟨hk, rfl⟩ := List.getElem?_eq_some_iff.1 hr
  have e : L.find? p = (L.take k ++ L.drop k).find? p := by rw [List.take_append_drop]
  rw [e, List.find?_append, h, List.drop_eq_getElem_cons hk]
  simp [List.find?, hp]
end Go.Proofs.Ytkhiogcdamjocaa
