/-
  THE ROW OF DomAlgebra.
-/
import Derived.Test.YtlihgipfimdlpaaRows
import Derived.Test.YtlihgipfimdlpaaAlg
import Derived.Test.YtlihgipfimdlpaaOpen
import Derived.Test.YtlihgipfimdlpaaLaw
namespace Go.Proofs.Ytlihgipfimdlpaa
open Go.RowKit Go.ChangeShapes Go.WideShapes Go.ChangeAt

theorem ownAlg : ownKnob Try.prog.godebug = none := by kernel_rfl
theorem laidOutAlg : laidOutB Try.prog = true := by kernel_rfl
theorem domAlgebra_read : Try.f8.params.toList.all (fun t => Try.prog.readableRec t && decide (t < Try.prog.types.size)) = true := by kernel_rfl
set_option maxRecDepth 100000 in
theorem domAlgebra_contract (H : Type) (enc : TypeId × Value → H) (W : World) (base : Nat) (args : Array Value) (ds gs : List (DataW H)) (before : List MemPlace)
    (hval : ∀ (j : Nat) t v, Try.f8.params[j]? = some t → args[j]? = some v → Value.okWide Try.prog W .any base t v)
    (hW : DataW.Whole enc Try.prog Try.f8.params.toList Rows.domAlgebraSpec.vars false W args.toList ds gs before) :
    Calls Try.prog 8 args W fun e W' => ∃ v, e = .returned v ∧ Rows.domAlgebraSpec.post enc Try.prog Try.f8 false true false false W args v W' := by
  have hW' := hW
  obtain ⟨p, q, hA0, hV, rfl, hfz, hnd⟩ := hW
  have hA : DataW.TrodAll enc Try.prog W 0 (fun _ => true) true Try.f8.params.toList args.toList ds p := hA0
  rw [Try.params8] at hA hval
  obtain ⟨v0, vs0, d0, ds0, p0, q0, hargs, rfl, rfl, h0, r0⟩ := trodAll_cons hA
  obtain ⟨v1, vs1, d1, ds1, p1, q1, rfl, rfl, rfl, h1, r1⟩ := trodAll_cons r0
  obtain ⟨v2, vs2, d2, ds2, p2, q2, rfl, rfl, rfl, h2, r2⟩ := trodAll_cons r1
  obtain ⟨rfl, rfl, rfl⟩ := trodAll_nil r2
  obtain rfl : args = #[v0, v1, v2] := by cases args; simp_all
  obtain ⟨rfl, rfl⟩ := trodVars_none hV
  obtain ⟨l0, hl0⟩ := open_rgs (hval 0 22 v0 rfl rfl) h0
  obtain ⟨l1, hl1⟩ := open_rgs (hval 1 22 v1 rfl rfl) h1
  obtain ⟨l2, hl2⟩ := open_rgs (hval 2 22 v2 rfl rfl) h2
  exact (domAlgebra_any _ _ _ _ _ _ W hl0 hl1 hl2).mono fun e W' ⟨he, hb⟩ => ⟨_, he, law_post laidOutAlg domAlgebra_read rfl rfl Try.underlying4 hW' hb rfl⟩
set_option maxRecDepth 100000 in
theorem domAlgebra_lifted (os : Os) (started : os.Started) (H : Type) (enc : TypeId × Value → H) :
    ReturnsInHanded {} Try.checked os 8 .any (Rows.domAlgebraSpec.pre6 enc Try.prog Try.f8 Rows.domAlgebraRow.domain false) (Rows.domAlgebraSpec.post enc Try.prog Try.f8 false true false false) := by
  refine returnsInHanded_of_change (C := Try.checked) ownAlg started (by kernel_rfl) Try.func8
    (ChangeSpec.witness6 (enc := enc) (C := Try.checked) false ⟨#[], #[.slice none 0 0, .slice none 0 0, .slice none 0 0], []⟩ 8 (by kernel_rfl) (by kernel_rfl) (by kernel_rfl) (by kernel_rfl)) ?_
  intro W base args ds gs before hval hW _ _
  exact domAlgebra_contract H enc W base args ds gs before hval hW
theorem domAlgebra_said : Rows.DomAlgebraSaid :=
  OpenClaim.holds_of_wide 8 Try.f8 rfl rfl rfl rfl rfl rfl rfl ⟨rfl, rfl, rfl, rfl, rfl⟩ rfl rfl rfl rfl rfl (by kernel_rfl) Try.func8 (by kernel_rfl)
    (of_decide_eq_true (by kernel_rfl)) (by unfold Func.isWrapper; first | (rw [if_pos (by decide +kernel)]; kernel_rfl) | (rw [if_neg (by decide +kernel)]; exact ⟨rfl, rfl⟩))
    (fun os started H enc _ => domAlgebra_lifted os started H enc)
end Go.Proofs.Ytlihgipfimdlpaa
