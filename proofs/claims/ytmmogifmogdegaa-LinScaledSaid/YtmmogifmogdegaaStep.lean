/-
  APPEND of one cell at a step of a region that draws, telling which blocks stay. Over any program.
-/
import Derived.Test.YtmmogifmogdegaaApp
import Derived.Deep.AppendLies
import Derived.Deep.RegionHeldLaw
namespace Go.Proofs.Ytmmogifmogdegaa
open Go.RowKit

/-- behind the append: a block that is none of the row's stands as it did, and the row lies in its old block or in a new one -/
theorem step_append1 {P : Program} {ops : Array Oper} {o : Oper} {a : Act} {w : World} {K : Act → World → Prop} {Q : Exit → Act → World → Prop} {E : Prop} (hgd : o.guard = none) (s x : Operand) (t : TypeId)
    (ho : o.op = .call { callee := .builtin .append, args := #[s, x], argTypes := #[t, t] })
    (base : Nat) (e : TypeId) (i : TypeInfo) (z : Value) (bytes : Nat) (ht : P.underlying t = some (.slice e)) (hi : P.info? e = some i) (hz : i.zero = some z)
    (hsize : i.size = 1) (hby : i.bytes = bytes) (hzs : z.cells.size = 1)
    (v : Value) (n : Nat) (xs : List Value) (hs : a.eval s = v) (hown : w.ownsRow base e 1 v n xs)
    (u1 : Value) (g : Nat) (hx : a.eval x = .slice (some ⟨g, 0, none⟩) 1 1) (hc1 : w.cell? ⟨g, 0, none⟩ = some u1) (h1 : u1.oneCell' = true)
    (hbytes : (n + 1) * bytes ≤ 140737488355328 ∧ n + 1 ≤ 140737488355328) (hbase : base ≤ w.heap.size)
    (h : ∀ g cap w', w'.ownsRow base e 1 (.slice (some ⟨g, 0, none⟩) (n + 1) cap) (n + 1) (xs ++ [u1]) → Below base w w' → KeepsBut w w' v → (v.ownBlock = some g ∨ g = w.heap.size) → K (a.put o.dst (.slice (some ⟨g, 0, none⟩) (n + 1) cap)) w') :
    if Region.wanted o (yielded ops a.tmps) = true then Oper.wp P o a w K Q else E := by
  refine step_append_lies w hgd s x t ho base e i z 1 bytes ht hi hz hsize hby hzs (by decide) v n xs hs hown ⟨g, 0, none⟩ 1 1 [u1] hx rfl ?_ ?_ (by decide) ?_ hbytes.1 hbase _ rfl ?_
  · intro j y hj
    match j, hj with
    | 0, hj => simp at hj; subst hj; simpa [Addr.add] using hc1
  · intro y hy; simp at hy; subst hy; exact h1
  · unfold maxLen; omega
  · intro g cap w' r1 r2 r3 _
    exact h g cap w' r1 ((Below.refl base w).grown r2 hbase (ownBlock_ge hown)) (fun b hb hne => r2.block b hb (fun he => hne he.symm)) r3
end Go.Proofs.Ytmmogifmogdegaa
