/-
  lin.part, lin.parts, lin.Sums, lin.Says, walked.
-/
import Derived.Test.YtkhiogcdamjocaaDs
import Derived.Test.YtkhiogcdamjocaaDomD
import Derived.Test.YtkhiogcdamjocaaChk
import Derived.Test.YtkhiogcdamjocaaBox
import Derived.Deep.RegionHeld3
import Derived.Deep.DeepCutAuto
import Derived.Handy
import Derived.Laws.ResultCell
namespace Go.Proofs.Ytkhiogcdamjocaa
open Go.RowKit

theorem mul_bnd (x c B : Int) (hx : -200 ≤ x ∧ x ≤ 200) (hc : -B ≤ c ∧ c ≤ B) : -(200 * B) ≤ c * x ∧ c * x ≤ 200 * B := by
  have h1 : (c * x).natAbs ≤ B.toNat * 200 := by
    rw [Int.natAbs_mul]; exact Nat.mul_le_mul (by omega) (by omega)
  omega
theorem wrap_small {x : Int} (h : -9223372036854775808 ≤ x ∧ x ≤ 9223372036854775807) : IntKind.i64.wrap x = x := by
  simp [IntKind.wrap, IntKind.bits, IntKind.signed]; omega

end Go.Proofs.Ytkhiogcdamjocaa
