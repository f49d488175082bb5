/-
  CONSTRAINTS THAT COME IN.
-/
import Derived.Test.YtkhiogcdamjocaaOpenO
import Derived.Test.YtkhiogcdamjocaaRel1
namespace Go.Proofs.Ytkhiogcdamjocaa
open Go.RowKit Go.ChangeShapes Go.WideShapes Go.ChangeAt

theorem cellsProp : Try.prog.cellsOf 26 = 9 := by kernel_rfl
theorem cellsLinP : Try.prog.cellsOf 24 = 4 := by kernel_rfl
theorem cellsIntP : Try.prog.cellsOf 3 = 1 := by kernel_rfl
theorem cellsIsP : Try.prog.cellsOf 22 = 1 := by kernel_rfl
theorem array9 {α : Type} {cs : Array α} (h : cs.size = 9) : ∃ c0 c1 c2 c3 c4 c5 c6 c7 c8, cs = #[c0, c1, c2, c3, c4, c5, c6, c7, c8] := by
  obtain ⟨l⟩ := cs
  match l, h with
  | [c0, c1, c2, c3, c4, c5, c6, c7, c8], _ => exact ⟨c0, c1, c2, c3, c4, c5, c6, c7, c8, rfl⟩
/-- the nine cells of a constraint -/
theorem open_propL {H : Type} {enc : TypeId × Value → H} {w : World} {sp : Nat → Bool} {held : Bool} {fuel : Nat} {c0 c1 c2 c3 c4 c5 c6 c7 c8 : Value} {y : DataW H × List MemPlace}
    (h : DataW.trod enc Try.prog w 0 sp held fuel 26 [c0, c1, c2, c3, c4, c5, c6, c7, c8] = some y) :
    ∃ kind rel c x y z : Int, ∃ coef vars vs : List Int, c0 = .int .i64 kind ∧ c3 = .int .i64 rel ∧ c4 = .int .i64 c ∧ c5 = .int .i64 x ∧ c6 = .int .i64 y ∧ c7 = .int .i64 z ∧ IsAt w c1 coef ∧ IsAt w c2 vars ∧ IsAt w c8 vs := by
  obtain ⟨xs, n, _, _, _, hlen, hF⟩ := DataW.trod_struct Try.underlying26 h
  match xs, hlen with
  | [y0, y1, y2, y3, y4, y5], _ =>
    have g0 := hF 0 _ rfl
    have g1 := hF 1 _ rfl
    have g2 := hF 2 _ rfl
    have g3 := hF 3 _ rfl
    have g4 := hF 4 _ rfl
    have g5 := hF 5 _ rfl
    simp [cellsIntP, cellsLinP, cellsIsP] at g0 g1 g2 g3 g4 g5
    obtain ⟨k, e0, _, _⟩ := DataW.trod_int Try.underlying3 g0
    obtain ⟨x, e2, _, _⟩ := DataW.trod_int Try.underlying3 g2
    obtain ⟨yy, e3, _, _⟩ := DataW.trod_int Try.underlying3 g3
    obtain ⟨z, e4, _, _⟩ := DataW.trod_int Try.underlying3 g4
    obtain ⟨vs, i5, _⟩ := open_isL g5
    obtain ⟨z0, z1, z2, z3, m, _, _, h0, h1, h2, h3⟩ := Joins.trod_struct4 Try.underlying24 g1
    simp [cellsIntP, cellsIsP] at h0 h1 h2 h3
    obtain ⟨coef, i0, _⟩ := open_isL h0
    obtain ⟨vars, i1, _⟩ := open_isL h1
    obtain ⟨r, e5, _, _⟩ := DataW.trod_int Try.underlying3 h2
    obtain ⟨cc, e6, _, _⟩ := DataW.trod_int Try.underlying3 h3
    simp at e0 e2 e3 e4 e5 e6
    exact ⟨k, r, cc, x, yy, z, coef, vars, vs, e0, e5, e6, e2, e3, e4, i0, i1, i5⟩
set_option maxRecDepth 100000 in
theorem open_prop {H : Type} {enc : TypeId × Value → H} {w : World} {base : Nat} {sp : Nat → Bool} {held : Bool} {v : Value} {d : DataW H} {ps : List MemPlace}
    (hval : Value.okWide Try.prog w .any base 26 v) (h : DataW.Trod enc Try.prog w 0 sp held 26 v d ps) :
    ∃ kind va vb rel c x y z vv, ∃ coef vars vs : List Int, v = propV kind va vb rel c x y z vv ∧ IsAt w va coef ∧ IsAt w vb vars ∧ IsAt w vv vs := by
  obtain ⟨cs, rfl, hsz⟩ := okWide_struct Try.underlying26 hval
  obtain ⟨c0, c1, c2, c3, c4, c5, c6, c7, c8, rfl⟩ := array9 (hsz.trans cellsProp)
  obtain ⟨fuel, hf⟩ := h
  obtain ⟨k, r, c, x, y, z, coef, vars, vs, rfl, rfl, rfl, rfl, rfl, rfl, i0, i1, i2⟩ := open_propL hf
  exact ⟨k, c1, c2, r, c, x, y, z, c8, coef, vars, vs, rfl, i0, i1, i2⟩
end Go.Proofs.Ytkhiogcdamjocaa
