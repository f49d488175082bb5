/-
  The four kinds' vars, called through the interface, walked.
-/
import Derived.Test.YtkhiogcdamjocaaRel1
import Derived.Test.YtkhiogcdamjocaaApp
namespace Go.Proofs.Ytkhiogcdamjocaa
open Go.RowKit

set_option maxRecDepth 100000 in
theorem varsLin_c (a0 a1 : Option Addr) (n0 n1 c0 c1 : Nat) (rel c : Int) (w : World) :
    Calls Try.prog 104 #[.agg #[.slice a0 n0 c0, .slice a1 n1 c1, .int .i64 rel, .int .i64 c]] w fun e w' => e = .returned (.slice a1 n1 c1) ∧ Below w.heap.size w w' := by
  go_enter Try.func104, Try.ntmps104
  go_wp2
  go_ret
  exact ⟨rfl, (Below.refl _ _).alloc (Nat.le_refl _) _⟩
set_option maxRecDepth 100000 in
theorem varsDiff_c (a1 : Option Addr) (n1 c1 : Nat) (w : World) :
    Calls Try.prog 110 #[.agg #[.slice a1 n1 c1]] w fun e w' => e = .returned (.slice a1 n1 c1) ∧ Below w.heap.size w w' := by
  go_enter Try.func110, Try.ntmps110
  go_wp2
  go_ret
  exact ⟨rfl, by first | exact (Below.refl _ _).alloc (Nat.le_refl _) _ | exact Below.refl _ _⟩
set_option maxRecDepth 100000 in
theorem varsProd_c (x y z : Int) (w : World) :
    Calls Try.prog 113 #[.agg #[.int .i64 x, .int .i64 y, .int .i64 z]] w fun e w' => ∃ ao cap, e = .returned (.slice ao 3 cap) ∧ IsAt w' (.slice ao 3 cap) [x, y, z] ∧ Below w.heap.size w w' := by
  go_enter Try.func113, Try.ntmps113
  go_wp2
  go_ret
  refine ⟨some ⟨w.heap.size + 1, 0, none⟩, 3, rfl, ?_, ((Below.refl _ _).alloc (Nat.le_refl _) _).alloc (by simp) _⟩
  have h := World.ownsRow_lit (base := 0) (w.alloc (.cells #[.int .i64 x, .int .i64 y, .int .i64 z] 88)) #[.int .i64 x, .int .i64 y, .int .i64 z] 3 (e := 3) (size := 1) (Nat.zero_le _) (by simp [maxLen]) rfl
  rw [show (w.alloc (.cells #[.int .i64 x, .int .i64 y, .int .i64 z] 88)).heap.size = w.heap.size + 1 by simp] at h
  exact SlAt.of_own h
end Go.Proofs.Ytkhiogcdamjocaa
