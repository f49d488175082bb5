/-
  '!=' at ranges.
-/
import Derived.Test.YtkhiogcdamjocaaRg
import Derived.Laws.StructEq
namespace Go.Proofs.Ytkhiogcdamjocaa
open Go.RowKit

set_option maxRecDepth 100000 in
theorem neqRg (x y : Rg) (w : World) : (binOp .neq 84 (.agg #[.int .i64 x.1, .int .i64 x.2]) (.agg #[.int .i64 y.1, .int .i64 y.2])).run Try.prog w = .ok (.bool (decide (x ≠ y))) w := by
  have u3 := Try.underlying3
  have a3 := Try.isAgg3
  have z3 := Try.sizeOf3
  have hS : Try.prog.underlying 84 = some (.struct (Try.prog.fieldsOf 84)) := by kernel_rfl
  have hp : Try.prog.stoodInHeld 84 = false := by kernel_rfl
  rw [run_neq_struct, show (10000 : Nat) = 9999 + 1 from rfl, run_equalIn_agg w 9999 84 _ _ hS hp]
  simp only [Program.fieldsOf, Try.underlying84]
  go_simp
  obtain ⟨x1, x2⟩ := x
  obtain ⟨y1, y2⟩ := y
  by_cases h1 : x1 = y1 <;> by_cases h2 : x2 = y2 <;> simp [h1, h2]
theorem guardRg (o : BinOp) (a b : Operand) (xs ys : Array Value) (w : World) : (eqGuard o 84 a b (.agg xs) (.agg ys)).run Try.prog w = .ok () w := run_eqGuard_agg w o 84 a b xs ys (by kernel_rfl)
end Go.Proofs.Ytkhiogcdamjocaa
