/-
  coneyref14.Shift, .Scale, walked.
  coneyref14.Scale, walked.
-/
import Derived.Test.YtajooiainglpmaaGreatKdom4
import Derived.Deep.AppendLies
import Derived.Deep.RegionHeldLaw
namespace Go.Proofs.YtajooiainglpmaaGreat
open Go.RowKit

/-- append of one range at a step of a region that draws -/
theorem step_append2 {P : Program} {ops : Array Oper} {o : Oper} {a : Act} {w : World} {K : Act → World → Prop} {Q : Exit → Act → World → Prop} {E : Prop} (hgd : o.guard = none) (s x : Operand) (t : TypeId)
    (ho : o.op = .call { callee := .builtin .append, args := #[s, x], argTypes := #[t, t] })
    (base : Nat) (e : TypeId) (i : TypeInfo) (z : Value) (bytes : Nat) (ht : P.underlying t = some (.slice e)) (hi : P.info? e = some i) (hz : i.zero = some z)
    (hsize : i.size = 2) (hby : i.bytes = bytes) (hzs : z.cells.size = 2)
    (v : Value) (n : Nat) (xs : List Value) (hs : a.eval s = v) (hown : w.ownsRow base e 2 v n xs)
    (u1 u2 : Value) (g : Nat) (hx : a.eval x = .slice (some ⟨g, 0, none⟩) 1 1) (hc1 : w.cell? ⟨g, 0, none⟩ = some u1) (hc2 : w.cell? ⟨g, 1, none⟩ = some u2) (h1 : u1.oneCell' = true) (h2 : u2.oneCell' = true)
    (hbytes : (n + 1) * bytes ≤ 140737488355328 ∧ n + 1 ≤ 140737488355328) (hbase : base ≤ w.heap.size)
    (h : ∀ g cap w', w'.ownsRow base e 2 (.slice (some ⟨g, 0, none⟩) (n + 1) cap) (n + 1) (xs ++ [u1, u2]) → Below base w w' → K (a.put o.dst (.slice (some ⟨g, 0, none⟩) (n + 1) cap)) w') :
    if Region.wanted o (yielded ops a.tmps) = true then Oper.wp P o a w K Q else E := by
  refine step_append_lies w hgd s x t ho base e i z 2 bytes ht hi hz hsize hby hzs (by decide) v n xs hs hown ⟨g, 0, none⟩ 1 1 [u1, u2] hx rfl ?_ ?_ (by decide) ?_ hbytes.1 hbase _ rfl ?_
  · intro j y hj
    match j, hj with
    | 0, hj => simp at hj; subst hj; simpa [Addr.add] using hc1
    | 1, hj => simp at hj; subst hj; simpa [Addr.add] using hc2
  · intro y hy; simp at hy; rcases hy with rfl | rfl <;> assumption
  · unfold maxLen; omega
  · intro g cap w' r1 r2 _ _
    exact h g cap w' r1 ((Below.refl base w).grown r2 hbase (ownBlock_ge hown))

theorem shL_take (b : Int) (l : List Rg) (k : Nat) (h : k < l.length) : shL b (l.take (k + 1)) = shL b (l.take k) ++ [(l[k].1 + b, l[k].2 + b)] := by
  unfold shL; rw [List.take_succ_eq_append_getElem h, List.map_append]; rfl
theorem scL_take (b : Int) (l : List Rg) (k : Nat) (h : k < l.length) : scL b (l.take (k + 1)) = scL b (l.take k) ++ [(min (l[k].1 * b) (l[k].2 * b), max (l[k].1 * b) (l[k].2 * b))] := by
  unfold scL; rw [List.take_succ_eq_append_getElem h, List.map_append]; rfl
theorem shL_length (b : Int) (l : List Rg) : (shL b l).length = l.length := by simp [shL]
theorem scL_length (b : Int) (l : List Rg) : (scL b l).length = l.length := by simp [scL]

end Go.Proofs.YtajooiainglpmaaGreat
namespace Go.Proofs.YtajooiainglpmaaGreat
open Go.RowKit

theorem mul_small (x c : Int) (hx : -200 ≤ x ∧ x ≤ 200) (hc : -10000 ≤ c ∧ c ≤ 10000) : -2000000 ≤ x * c ∧ x * c ≤ 2000000 := by
  have h1 : (x * c).natAbs ≤ 200 * 10000 := by
    rw [Int.natAbs_mul]; exact Nat.mul_le_mul (by omega) (by omega)
  omega
theorem quiet_here {P : Program} {f : FuncId} {args : Array Value} {w : World} {n : Nat} {v : Value} (h : Calls P f args (w.drewN n) fun e w' => e = .returned v ∧ w.drewN n = w') :
    Calls P f args (w.drewN n) fun e w'' => e = .returned v ∧ ∃ m, w'' = w.drewN m := h.mono fun _ _ ⟨he, hw⟩ => ⟨he, n, hw.symm⟩

end Go.Proofs.YtajooiainglpmaaGreat
