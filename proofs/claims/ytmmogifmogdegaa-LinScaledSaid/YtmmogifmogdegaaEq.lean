/-
  '!=' at ranges.
-/
import Derived.Test.YtmmogifmogdegaaRg
import Derived.Laws.StructEq
namespace Go.Proofs.Ytmmogifmogdegaa
open Go.RowKit

set_option maxRecDepth 100000 in
theorem neqRg (x y : Rg) (w : World) : (binOp .neq 60 (.agg #[.int .i64 x.1, .int .i64 x.2]) (.agg #[.int .i64 y.1, .int .i64 y.2])).run Try.prog w = .ok (.bool (decide (x ≠ y))) w := by
  have u3 := Try.underlying3
  have a3 := Try.isAgg3
  have z3 := Try.sizeOf3
  have hS : Try.prog.underlying 60 = some (.struct (Try.prog.fieldsOf 60)) := by kernel_rfl
  have hp : Try.prog.stoodInHeld 60 = false := by kernel_rfl
  rw [run_neq_struct, show (10000 : Nat) = 9999 + 1 from rfl, run_equalIn_agg w 9999 60 _ _ hS hp]
  simp only [Program.fieldsOf, Try.underlying60]
  go_simp
  obtain ⟨x1, x2⟩ := x
  obtain ⟨y1, y2⟩ := y
  by_cases h1 : x1 = y1 <;> by_cases h2 : x2 = y2 <;> simp [h1, h2]
theorem guardRg (o : BinOp) (a b : Operand) (xs ys : Array Value) (w : World) : (eqGuard o 60 a b (.agg xs) (.agg ys)).run Try.prog w = .ok () w := run_eqGuard_agg w o 60 a b xs ys (by kernel_rfl)
end Go.Proofs.Ytmmogifmogdegaa
