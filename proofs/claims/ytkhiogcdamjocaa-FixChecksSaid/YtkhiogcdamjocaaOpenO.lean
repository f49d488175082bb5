/-
  OPTIONS AND LISTS OF INTEGERS THAT COME IN.
-/
import Derived.Test.YtkhiogcdamjocaaOpenL
namespace Go.Proofs.Ytkhiogcdamjocaa
open Go.RowKit Go.ChangeShapes Go.WideShapes Go.ChangeAt

set_option maxRecDepth 100000 in
theorem open_ints' {H : Type} {enc : TypeId × Value → H} {w : World} {sp : Nat → Bool} {held : Bool} {base : Nat} {v : Value} {d : DataW H} {ps : List MemPlace}
    (hval : Value.okWide Try.prog w .any base 22 v) (h0 : DataW.Trod enc Try.prog w 0 sp held 22 v d ps) : ∃ zs : List Int, IsAt w v zs ∧ ∀ z ∈ zs, -9223372036854775808 ≤ z ∧ z ≤ 9223372036854775807 := by
  obtain ⟨a0, l0, c0, rfl⟩ := okWide_slice Try.underlying22 hval
  obtain ⟨fuel, h⟩ := Joins.field_of_Trod h0 rfl
  exact open_isL h
theorem cellsOptO : Try.prog.cellsOf 45 = 4 := by kernel_rfl
set_option maxRecDepth 100000 in
theorem open_opt {H : Type} {enc : TypeId × Value → H} {w : World} {base : Nat} {sp : Nat → Bool} {held : Bool} {v : Value} {d : DataW H} {ps : List MemPlace}
    (hval : Value.okWide Try.prog w .any base 45 v) (h : DataW.Trod enc Try.prog w 0 sp held 45 v d ps) :
    ∃ sel ord br vw, ∃ ws : List Int, v = .agg #[.int .i64 sel, .int .i64 ord, .int .i64 br, vw] ∧ IsAt w vw ws ∧ ∀ z ∈ ws, -9223372036854775808 ≤ z ∧ z ≤ 9223372036854775807 := by
  obtain ⟨c0, c1, c2, c3, y0, y1, y2, y3, m, rfl, rfl, rfl, h0, h1, h2, h3⟩ := Joins.open_agg4 Try.underlying45 (by kernel_rfl) cellsOptO hval h
  obtain ⟨x0, e0, _, w0⟩ := DataW.trod_int Try.underlying3 h0
  obtain ⟨x1, e1, _, w1⟩ := DataW.trod_int Try.underlying3 h1
  obtain ⟨x2, e2, _, w2⟩ := DataW.trod_int Try.underlying3 h2
  obtain ⟨ws, i3, b3⟩ := open_isL h3
  simp at e0 e1 e2
  subst e0 e1 e2
  exact ⟨x0, x1, x2, c3, ws, rfl, i3, b3⟩
end Go.Proofs.Ytkhiogcdamjocaa
