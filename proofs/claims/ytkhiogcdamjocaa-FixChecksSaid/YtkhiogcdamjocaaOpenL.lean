/-
  SUMS AND LISTS OF SETS THAT COME IN.
-/
import Derived.Test.YtkhiogcdamjocaaOpen
import Derived.Test.YtkhiogcdamjocaaDs
import Derived.Test.YtkhiogcdamjocaaChk
namespace Go.Proofs.Ytkhiogcdamjocaa
open Go.RowKit Go.ChangeShapes Go.WideShapes Go.ChangeAt

theorem cellsRgsL : Try.prog.cellsOf 46 = 1 := by kernel_rfl
set_option maxRecDepth 100000 in
theorem rgs_of {H : Type} {enc : TypeId × Value → H} {w : World} {sp : Nat → Bool} {held : Bool} {fuel : Nat} {v : Value} {y : DataW H × List MemPlace}
    (h : DataW.trod enc Try.prog w 0 sp held fuel 46 [v] = some y) : ∃ rs : List Rg, RgAt w v rs := by
  obtain ⟨d, ps⟩ := y
  obtain ⟨n, xs, hS, hE⟩ := open_sl (k := 2) Try.underlying46 cellsRg h
  have hl := hS.len
  have hx : ∀ i, i < n → ∃ r : Rg, xs[i * 2]? = some (.int .i64 r.1) ∧ xs[i * 2 + 1]? = some (.int .i64 r.2) := fun i hi => by
    obtain ⟨m, y, hy⟩ := hE i hi
    obtain ⟨x0, x1, e0, e1, e2⟩ := pair_cut hl hi
    rw [e2] at hy
    obtain ⟨y0, y1, q, _, _, t0, t1⟩ := trod_struct2 Try.underlying84 hy
    obtain ⟨z0, hz0, _, _⟩ := DataW.trod_int Try.underlying3 t0
    obtain ⟨z1, hz1, _, _⟩ := DataW.trod_int Try.underlying3 t1
    refine ⟨(z0, z1), ?_, ?_⟩
    · rw [e0]; simp [cellsInt] at hz0; rw [hz0]
    · rw [e1]; simp [cellsInt] at hz1; rw [hz1]
  obtain ⟨f, hf⟩ := Deep.choose_lt hx
  refine ⟨(List.range n).map f, ?_⟩
  have e : xs = cellsR ((List.range n).map f) := by
    apply List.ext_getElem?
    intro t
    by_cases ht : t < n * 2
    · have hd : t / 2 < ((List.range n).map f).length := by simp; omega
      obtain ⟨a, b⟩ := cellsR_at ((List.range n).map f) (t / 2) hd
      obtain ⟨f0, f1⟩ := hf (t / 2) (by omega)
      have e3 : ((List.range n).map f)[t / 2] = f (t / 2) := by simp
      rw [e3] at a b
      rcases (show t % 2 = 0 ∨ t % 2 = 1 by omega) with h | h
      · rw [show xs[t]? = xs[t / 2 * 2]? by congr 1; omega, f0, show (cellsR ((List.range n).map f))[t]? = (cellsR ((List.range n).map f))[t / 2 * 2]? by congr 1; omega, a]
      · rw [show xs[t]? = xs[t / 2 * 2 + 1]? by congr 1; omega, f1, show (cellsR ((List.range n).map f))[t]? = (cellsR ((List.range n).map f))[t / 2 * 2 + 1]? by congr 1; omega, b]
    · rw [List.getElem?_eq_none (by omega), List.getElem?_eq_none (by rw [cellsR_length]; simp; omega)]
  unfold RgAt
  rw [← e]
  simpa using hS
set_option maxRecDepth 100000 in
theorem open_dss {H : Type} {enc : TypeId × Value → H} {w : World} {sp : Nat → Bool} {held : Bool} {base : Nat} {v : Value} {d : DataW H} {ps : List MemPlace}
    (hval : Value.okWide Try.prog w .any base 32 v) (h0 : DataW.Trod enc Try.prog w 0 sp held 32 v d ps) : ∃ ds : Ds, DsAt w v ds := by
  obtain ⟨a0, l0, c0, rfl⟩ := okWide_slice Try.underlying32 hval
  obtain ⟨fuel, h⟩ := Joins.field_of_Trod h0 rfl
  obtain ⟨n, us, hS, hE⟩ := open_sl (k := 1) Try.underlying32 cellsRgsL h
  have hl := hS.len
  have hx : ∀ i, i < n → ∃ r : List Rg, ∃ u, us[i]? = some u ∧ RgAt w u r := fun i hi => by
    obtain ⟨m, y, hy⟩ := hE i hi
    have hi' : i < us.length := by omega
    have e : (us.drop (i * 1)).take 1 = [us[i]] := by rw [Nat.mul_one, List.drop_eq_getElem_cons hi']; rfl
    rw [e] at hy
    obtain ⟨rs, hr⟩ := rgs_of hy
    exact ⟨rs, us[i], List.getElem?_eq_getElem hi', hr⟩
  obtain ⟨f, hf⟩ := Deep.choose_lt hx
  refine ⟨(List.range n).map f, us, by simp; omega, by simpa using hS, fun j hj => ?_⟩
  have hj' : j < n := by simpa using hj
  obtain ⟨u, e1, e2⟩ := hf j hj'
  exact ⟨u, e1, by simpa using e2⟩
/-- a slice of integers that comes in -/
theorem open_isL {H : Type} {enc : TypeId × Value → H} {w : World} {sp : Nat → Bool} {held : Bool} {fuel : Nat} {v : Value} {y : DataW H × List MemPlace}
    (h : DataW.trod enc Try.prog w 0 sp held fuel 22 [v] = some y) : ∃ zs : List Int, IsAt w v zs ∧ ∀ z ∈ zs, -9223372036854775808 ≤ z ∧ z ≤ 9223372036854775807 := by
  obtain ⟨d, ps⟩ := y
  obtain ⟨n, xs, hS, hE⟩ := open_sl (k := 1) Try.underlying22 cellsInt h
  have hx : ∀ i, i < n → ∃ z : Int, xs[i]? = some (.int .i64 z) ∧ (Lit.int .i64 z).wf = true := fun i hi => by
    obtain ⟨m, y, hy⟩ := hE i hi
    obtain ⟨z, hz, _, hwf⟩ := DataW.trod_int Try.underlying3 hy
    refine ⟨z, ?_, hwf⟩
    have := congrArg (·[0]?) hz
    simpa [List.getElem?_take, List.getElem?_drop] using this
  obtain ⟨f, hf⟩ := Deep.choose_lt hx
  have hl := hS.len
  have e : xs = ((List.range n).map f).map (Value.int .i64) := by
    apply List.ext_getElem?
    intro i
    by_cases hi : i < n
    · rw [(hf i hi).1]; simp [hi]
    · rw [List.getElem?_eq_none (by omega), List.getElem?_eq_none (by simp; omega)]
  refine ⟨(List.range n).map f, ?_, fun z hz => ?_⟩
  · unfold IsAt
    rw [← e]
    simpa using hS
  · obtain ⟨i, hi, rfl⟩ := List.mem_map.1 hz
    have := (hf i (by simpa using hi)).2
    simpa [Lit.wf, IntKind.min, IntKind.max, IntKind.bits, IntKind.signed] using this
theorem cellsLinL : Try.prog.cellsOf 24 = 4 := by kernel_rfl
set_option maxRecDepth 100000 in
/-- a sum that comes in -/
theorem open_lin {H : Type} {enc : TypeId × Value → H} {w : World} {base : Nat} {sp : Nat → Bool} {held : Bool} {v : Value} {d : DataW H} {ps : List MemPlace}
    (hval : Value.okWide Try.prog w .any base 24 v) (h : DataW.Trod enc Try.prog w 0 sp held 24 v d ps) :
    ∃ va vb rel c, ∃ coef vars : List Int, v = .agg #[va, vb, .int .i64 rel, .int .i64 c] ∧ IsAt w va coef ∧ IsAt w vb vars ∧ ((∀ z ∈ coef, -9223372036854775808 ≤ z ∧ z ≤ 9223372036854775807) ∧ (∀ z ∈ vars, -9223372036854775808 ≤ z ∧ z ≤ 9223372036854775807) ∧ (-9223372036854775808 ≤ rel ∧ rel ≤ 9223372036854775807) ∧ (-9223372036854775808 ≤ c ∧ c ≤ 9223372036854775807)) := by
  obtain ⟨c0, c1, c2, c3, y0, y1, y2, y3, m, rfl, rfl, rfl, h0, h1, h2, h3⟩ := Joins.open_agg4 Try.underlying24 (by kernel_rfl) cellsLinL hval h
  obtain ⟨z0, i0, b0⟩ := open_isL h0
  obtain ⟨z1, i1, b1⟩ := open_isL h1
  obtain ⟨r, e2, _, w2⟩ := DataW.trod_int Try.underlying3 h2
  obtain ⟨c, e3, _, w3⟩ := DataW.trod_int Try.underlying3 h3
  simp at e2 e3
  subst e2 e3
  exact ⟨c0, c1, r, c, z0, z1, rfl, i0, i1, b0, b1, by simpa [Lit.wf, IntKind.min, IntKind.max, IntKind.bits, IntKind.signed] using w2, by simpa [Lit.wf, IntKind.min, IntKind.max, IntKind.bits, IntKind.signed] using w3⟩
end Go.Proofs.Ytkhiogcdamjocaa
