/-
  LISTS OF uint16 THAT COME IN.
-/
import Derived.Test.YtmmogifmogdegaaOpenL
import Derived.Test.YtmmogifmogdegaaLawL
namespace Go.Proofs.Ytmmogifmogdegaa
open Go.RowKit Go.ChangeShapes Go.WideShapes Go.ChangeAt

theorem cellsU16 : Try.prog.cellsOf 42 = 1 := by kernel_rfl
set_option maxRecDepth 100000 in
theorem open_u16s {H : Type} {enc : TypeId × Value → H} {w : World} {sp : Nat → Bool} {held : Bool} {base : Nat} {v : Value} {d : DataW H} {ps : List MemPlace}
    (hval : Value.okWide Try.prog w .any base 40 v) (h0 : DataW.Trod enc Try.prog w 0 sp held 40 v d ps) : ∃ zs : List Int, SlAt w 1 v zs.length (zs.map (Value.int .u16)) ∧ ∀ z ∈ zs, 0 ≤ z ∧ z ≤ 65535 := by
  obtain ⟨a0, l0, c0, rfl⟩ := okWide_slice Try.underlying40 hval
  obtain ⟨fuel, h⟩ := Joins.field_of_Trod h0 rfl
  obtain ⟨n, xs, hS, hE⟩ := open_sl (k := 1) Try.underlying40 cellsU16 h
  have hx : ∀ i, i < n → ∃ z : Int, xs[i]? = some (.int .u16 z) ∧ (Lit.int .u16 z).wf = true := fun i hi => by
    obtain ⟨m, y, hy⟩ := hE i hi
    obtain ⟨z, hz, _, hwf⟩ := DataW.trod_int Try.underlying42 hy
    refine ⟨z, ?_, hwf⟩
    have := congrArg (·[0]?) hz
    simpa [List.getElem?_take, List.getElem?_drop] using this
  obtain ⟨f, hf⟩ := Deep.choose_lt hx
  have hl := hS.len
  have e : xs = ((List.range n).map f).map (Value.int .u16) := by
    apply List.ext_getElem?
    intro i
    by_cases hi : i < n
    · rw [(hf i hi).1]; simp [hi]
    · rw [List.getElem?_eq_none (by omega), List.getElem?_eq_none (by simp; omega)]
  refine ⟨(List.range n).map f, ?_, fun z hz => ?_⟩
  · rw [← e]
    simpa using hS
  · obtain ⟨i, hi, rfl⟩ := List.mem_map.1 hz
    have := (hf i (by simpa using hi)).2
    simpa [Lit.wf, IntKind.min, IntKind.max, IntKind.bits, IntKind.signed] using this
end Go.Proofs.Ytmmogifmogdegaa
