/-
  LISTS OF CONSTRAINTS THAT COME IN.
-/
import Derived.Test.YtkhiogcdamjocaaOpenP
import Derived.Test.YtkhiogcdamjocaaFix1
namespace Go.Proofs.Ytkhiogcdamjocaa
open Go.RowKit Go.ChangeShapes Go.WideShapes Go.ChangeAt

set_option maxRecDepth 100000 in
theorem open_props {H : Type} {enc : TypeId × Value → H} {w : World} {sp : Nat → Bool} {held : Bool} {base : Nat} {v : Value} {d : DataW H} {ps : List MemPlace}
    (hval : Value.okWide Try.prog w .any base 33 v) (h0 : DataW.Trod enc Try.prog w 0 sp held 33 v d ps) : ∃ l : List PL, PsAt w v l := by
  obtain ⟨a0, l0, c0, rfl⟩ := okWide_slice Try.underlying33 hval
  obtain ⟨fuel, h⟩ := Joins.field_of_Trod h0 rfl
  obtain ⟨n, us, hS, hE⟩ := open_sl (k := 9) Try.underlying33 cellsProp h
  have hl := hS.len
  have hx : ∀ i, i < n → ∃ p : PL, ∃ va vb vv, us[i * 9]? = some (.int .i64 p.kind) ∧ us[i * 9 + 1]? = some va ∧ us[i * 9 + 2]? = some vb ∧ us[i * 9 + 3]? = some (.int .i64 p.rel) ∧ us[i * 9 + 4]? = some (.int .i64 p.c) ∧
      us[i * 9 + 5]? = some (.int .i64 p.x) ∧ us[i * 9 + 6]? = some (.int .i64 p.y) ∧ us[i * 9 + 7]? = some (.int .i64 p.z) ∧ us[i * 9 + 8]? = some vv ∧ IsAt w va p.coef ∧ IsAt w vb p.vars ∧ IsAt w vv p.vs := fun i hi => by
    obtain ⟨m, y, hy⟩ := hE i hi
    have g : ∀ k, k < 9 → i * 9 + k < us.length := fun k hk => by omega
    have e : (us.drop (i * 9)).take 9 = [us[i * 9]'(by omega), us[i * 9 + 1]'(by omega), us[i * 9 + 2]'(by omega), us[i * 9 + 3]'(by omega), us[i * 9 + 4]'(by omega), us[i * 9 + 5]'(by omega), us[i * 9 + 6]'(by omega), us[i * 9 + 7]'(by omega), us[i * 9 + 8]'(by omega)] := by
      apply List.ext_getElem
      · simp; omega
      · intro j h1 h2
        have hj : j < 9 := by simpa using h2
        rw [List.getElem_take, List.getElem_drop]
        match j, hj with
        | 0, _ => rfl | 1, _ => rfl | 2, _ => rfl | 3, _ => rfl | 4, _ => rfl | 5, _ => rfl | 6, _ => rfl | 7, _ => rfl | 8, _ => rfl
    rw [e] at hy
    obtain ⟨kind, rel, c, x, yy, z, coef, vars, vs, e0, e3, e4, e5, e6, e7, i1, i2, i8⟩ := open_propL hy
    refine ⟨⟨kind, rel, c, x, yy, z, coef, vars, vs⟩, _, _, _, ?_, List.getElem?_eq_getElem (by omega), List.getElem?_eq_getElem (by omega), ?_, ?_, ?_, ?_, ?_, List.getElem?_eq_getElem (by omega), i1, i2, i8⟩
    · rw [List.getElem?_eq_getElem (by omega), e0]
    · rw [List.getElem?_eq_getElem (by omega), e3]
    · rw [List.getElem?_eq_getElem (by omega), e4]
    · rw [List.getElem?_eq_getElem (by omega), e5]
    · rw [List.getElem?_eq_getElem (by omega), e6]
    · rw [List.getElem?_eq_getElem (by omega), e7]
  haveI : Inhabited PL := ⟨⟨0, 0, 0, 0, 0, 0, [], [], []⟩⟩
  obtain ⟨f, hf⟩ := Deep.choose_lt hx
  obtain ⟨h1, ao, cap, he, h2, h3, h5, h4⟩ := hS
  refine ⟨(List.range n).map f, ao, cap, by rw [he]; simp, by simpa using h2, h3, fun hp => ?_⟩
  have hn : 0 < n := by simpa using hp
  obtain ⟨b, off, rfl, hlt, hc⟩ := h4 (by omega)
  refine ⟨b, off, rfl, hlt, fun j hj => ?_⟩
  have hj' : j < n := by simpa using hj
  obtain ⟨va, vb, vv, g0, g1, g2, g3, g4, g5, g6, g7, g8, i1, i2, i8⟩ := hf j hj'
  rw [show ((List.range n).map f)[j] = f j by simp]
  refine ⟨va, vb, vv, ⟨?_, ?_, ?_, ?_, ?_, ?_, ?_, ?_, ?_⟩, i1, i2, i8⟩
  · rw [hc (j * 9) (by omega), g0]
  · rw [Nat.add_assoc, hc (j * 9 + 1) (by omega), g1]
  · rw [Nat.add_assoc, hc (j * 9 + 2) (by omega), g2]
  · rw [Nat.add_assoc, hc (j * 9 + 3) (by omega), g3]
  · rw [Nat.add_assoc, hc (j * 9 + 4) (by omega), g4]
  · rw [Nat.add_assoc, hc (j * 9 + 5) (by omega), g5]
  · rw [Nat.add_assoc, hc (j * 9 + 6) (by omega), g6]
  · rw [Nat.add_assoc, hc (j * 9 + 7) (by omega), g7]
  · rw [Nat.add_assoc, hc (j * 9 + 8) (by omega), g8]
end Go.Proofs.Ytkhiogcdamjocaa
