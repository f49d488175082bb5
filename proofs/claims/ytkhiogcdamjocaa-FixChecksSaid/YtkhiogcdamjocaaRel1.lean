/-
  rel.of, the four kinds' vars, walked.
-/
import Derived.Test.YtkhiogcdamjocaaLin1
namespace Go.Proofs.Ytkhiogcdamjocaa
open Go.RowKit

/-- a constraint, as it lies (nested structs lie flat) -/
def propV (kind : Int) (va vb : Value) (rel c x y z : Int) (vv : Value) : Value := .agg #[.int .i64 kind, va, vb, .int .i64 rel, .int .i64 c, .int .i64 x, .int .i64 y, .int .i64 z, vv]
/-- the constraint of its kind -/
def ofV (kind : Int) (va vb : Value) (rel c x y z : Int) (vv : Value) : Value :=
  if kind = 1 then .iface 59 (.agg #[va, vb, .int .i64 rel, .int .i64 c]) else if kind = 2 then .iface 88 (.agg #[.int .i64 x, .int .i64 y, .int .i64 z])
  else if kind = 3 then .iface 64 (.agg #[vv]) else if kind = 4 then .iface 62 (.agg #[.int .i64 x, va, vb, .int .i64 rel, .int .i64 c]) else .nilIface

set_option maxRecDepth 100000 in
set_option maxHeartbeats 800000 in
theorem of_c (kind : Int) (a0 a1 a2 : Option Addr) (n0 n1 n2 c0 c1 c2 : Nat) (rel c x y z : Int) (w : World) :
    Calls Try.prog 28 #[propV kind (.slice a0 n0 c0) (.slice a1 n1 c1) rel c x y z (.slice a2 n2 c2)] w fun e w' => e = .returned (ofV kind (.slice a0 n0 c0) (.slice a1 n1 c1) rel c x y z (.slice a2 n2 c2)) ∧ Below w.heap.size w w' := by
  unfold propV ofV
  by_cases h1 : kind = 1
  · subst h1
    go_enter Try.func28, Try.ntmps28
    go_wp2
    go_ret
    exact ⟨rfl, (Below.refl _ _).alloc (Nat.le_refl _) _⟩
  by_cases h2 : kind = 2
  · subst h2
    go_enter Try.func28, Try.ntmps28
    go_wp2
    go_ret
    exact ⟨rfl, (Below.refl _ _).alloc (Nat.le_refl _) _⟩
  by_cases h3 : kind = 3
  · subst h3
    go_enter Try.func28, Try.ntmps28
    go_wp2
    go_ret
    exact ⟨rfl, (Below.refl _ _).alloc (Nat.le_refl _) _⟩
  by_cases h4 : kind = 4
  · subst h4
    go_enter Try.func28, Try.ntmps28
    go_wp2
    go_ret
    exact ⟨rfl, (Below.refl _ _).alloc (Nat.le_refl _) _⟩
  · have g1 : (kind == 1) = false := beq_eq_false_iff_ne.2 h1
    have g2 : (kind == 2) = false := beq_eq_false_iff_ne.2 h2
    have g3 : (kind == 3) = false := beq_eq_false_iff_ne.2 h3
    have g4 : (kind == 4) = false := beq_eq_false_iff_ne.2 h4
    rw [if_neg h1, if_neg h2, if_neg h3, if_neg h4]
    go_enter Try.func28, Try.ntmps28
    go_wp2
    go_ret
    exact ⟨rfl, (Below.refl _ _).alloc (Nat.le_refl _) _⟩
end Go.Proofs.Ytkhiogcdamjocaa
