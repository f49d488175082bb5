/-
  A LIST OF RANGES THAT COMES IN.
-/
import Derived.Test.YtkhiogcdamjocaaRg
import Derived.Test.YtkhiogcdamjocaaLaw
import Derived.Lib.SmallJoins
namespace Go.Proofs.Ytkhiogcdamjocaa
open Go.RowKit Go.ChangeShapes Go.WideShapes Go.ChangeAt

theorem cellsRg : Try.prog.cellsOf 84 = 2 := by kernel_rfl
theorem cellsInt : Try.prog.cellsOf 3 = 1 := by kernel_rfl
theorem pair_cut {xs : List Value} {n i : Nat} (hl : xs.length = n * 2) (hi : i < n) : ∃ x0 x1, xs[i * 2]? = some x0 ∧ xs[i * 2 + 1]? = some x1 ∧ (xs.drop (i * 2)).take 2 = [x0, x1] := by
  have h0 : i * 2 < xs.length := by omega
  have h1 : i * 2 + 1 < xs.length := by omega
  refine ⟨xs[i * 2], xs[i * 2 + 1], List.getElem?_eq_getElem h0, List.getElem?_eq_getElem h1, ?_⟩
  rw [List.drop_eq_getElem_cons h0, List.drop_eq_getElem_cons h1]
  rfl
set_option maxRecDepth 100000 in
theorem open_rgs {H : Type} {enc : TypeId × Value → H} {w : World} {sp : Nat → Bool} {held : Bool} {base : Nat} {v : Value} {d : DataW H} {ps : List MemPlace}
    (hval : Value.okWide Try.prog w .any base 46 v) (h0 : DataW.Trod enc Try.prog w 0 sp held 46 v d ps) : ∃ rs : List Rg, RgAt w v rs := by
  obtain ⟨a0, l0, c0, rfl⟩ := okWide_slice Try.underlying46 hval
  obtain ⟨fuel, h⟩ := Joins.field_of_Trod h0 rfl
  obtain ⟨n, xs, hS, hE⟩ := open_sl (k := 2) Try.underlying46 cellsRg h
  have hl := hS.len
  have hx : ∀ i, i < n → ∃ r : Rg, xs[i * 2]? = some (.int .i64 r.1) ∧ xs[i * 2 + 1]? = some (.int .i64 r.2) := fun i hi => by
    obtain ⟨m, y, hy⟩ := hE i hi
    obtain ⟨x0, x1, e0, e1, e2⟩ := pair_cut hl hi
    rw [e2] at hy
    obtain ⟨y0, y1, q, _, _, t0, t1⟩ := trod_struct2 Try.underlying84 hy
    obtain ⟨z0, hz0, _, _⟩ := DataW.trod_int Try.underlying3 t0
    obtain ⟨z1, hz1, _, _⟩ := DataW.trod_int Try.underlying3 t1
    refine ⟨(z0, z1), ?_, ?_⟩
    · rw [e0]; simp [cellsInt] at hz0; rw [hz0]
    · rw [e1]; simp [cellsInt] at hz1; rw [hz1]
  obtain ⟨f, hf⟩ := Deep.choose_lt hx
  refine ⟨(List.range n).map f, ?_⟩
  have e : xs = cellsR ((List.range n).map f) := by
    apply List.ext_getElem?
    intro t
    by_cases ht : t < n * 2
    · have hd : t / 2 < ((List.range n).map f).length := by simp; omega
      obtain ⟨a, b⟩ := cellsR_at ((List.range n).map f) (t / 2) hd
      obtain ⟨f0, f1⟩ := hf (t / 2) (by omega)
      have e3 : ((List.range n).map f)[t / 2] = f (t / 2) := by simp
      rw [e3] at a b
      rcases (show t % 2 = 0 ∨ t % 2 = 1 by omega) with h | h
      · rw [show xs[t]? = xs[t / 2 * 2]? by congr 1; omega, f0, show (cellsR ((List.range n).map f))[t]? = (cellsR ((List.range n).map f))[t / 2 * 2]? by congr 1; omega, a]
      · rw [show xs[t]? = xs[t / 2 * 2 + 1]? by congr 1; omega, f1, show (cellsR ((List.range n).map f))[t]? = (cellsR ((List.range n).map f))[t / 2 * 2 + 1]? by congr 1; omega, b]
    · rw [List.getElem?_eq_none (by omega), List.getElem?_eq_none (by rw [cellsR_length]; simp; omega)]
  unfold RgAt
  rw [← e]
  simpa using hS
end Go.Proofs.Ytkhiogcdamjocaa
