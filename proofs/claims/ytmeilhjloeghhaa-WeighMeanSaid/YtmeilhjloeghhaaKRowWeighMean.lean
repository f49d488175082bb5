/-
  THE ROW OF WeighMean.
-/
import Derived.Test.YtmeilhjloeghhaaRows
import Derived.Test.YtmeilhjloeghhaaKweighm1
import Derived.Test.YtmeilhjloeghhaaKlib1
namespace Go.Proofs.Ytmeilhjloeghhaa
open Go.RowKit Go.ChangeShapes Go.WideShapes Go.ChangeAt

theorem ownWeighMean : ownKnob Try.prog.godebug = none := by kernel_rfl
theorem laidOutWeighMean : laidOutB Try.prog = true := by kernel_rfl
theorem weighMean_read : Try.f6.params.toList.all (fun t => Try.prog.readableRec t && decide (t < Try.prog.types.size)) = true := by kernel_rfl
set_option maxRecDepth 100000 in
theorem weighMean_contract (H : Type) (enc : TypeId × Value → H) (W : World) (base : Nat) (args : Array Value) (ds gs : List (DataW H)) (before : List MemPlace)
    (hval : ∀ (j : Nat) t v, Try.f6.params[j]? = some t → args[j]? = some v → Value.okWide Try.prog W .any base t v)
    (hW : DataW.Whole enc Try.prog Try.f6.params.toList Rows.weighMeanSpec.vars false W args.toList ds gs before) :
    Calls Try.prog 6 args W fun e W' => ∃ v, e = .returned v ∧ Rows.weighMeanSpec.post enc Try.prog Try.f6 false true false false W args v W' := by
  have hW' := hW
  obtain ⟨p, q, hA0, hV, rfl, hfz, hnd⟩ := hW
  have hA : DataW.TrodAll enc Try.prog W 0 (fun _ => true) true Try.f6.params.toList args.toList ds p := hA0
  rw [Try.params6] at hA hval
  obtain ⟨v0, vs0, d0, ds0, p0, q0, hargs, rfl, rfl, h0, r0⟩ := trodAll_cons hA
  obtain ⟨v1, vs1, d1, ds1, p1, q1, rfl, rfl, rfl, h1, r1⟩ := trodAll_cons r0
  obtain ⟨rfl, rfl, rfl⟩ := trodAll_nil r1
  obtain rfl : args = #[v0, v1] := by cases args; simp_all
  obtain ⟨rfl, rfl⟩ := trodVars_none hV
  obtain ⟨x0, rfl, rfl, rfl, wf0⟩ := open_int Try.underlying28 (hval 0 28 v0 rfl rfl) h0
  have hx0 : -32768 ≤ x0 ∧ x0 ≤ 32767 := by simpa [Lit.wf, IntKind.min, IntKind.max, IntKind.bits, IntKind.signed] using wf0
  obtain ⟨x1, rfl, rfl, rfl, wf1⟩ := open_int Try.underlying5 (hval 1 5 v1 rfl rfl) h1
  have hx1 : 0 ≤ x1 ∧ x1 ≤ 255 := by simpa [Lit.wf, IntKind.min, IntKind.max, IntKind.bits, IntKind.signed] using wf1
  exact (weighMean_any _ _ W hx0 hx1).mono fun e W' ⟨he, hb⟩ => ⟨_, he, law_post laidOutWeighMean weighMean_read rfl rfl Try.underlying4 hW' hb rfl⟩
set_option maxRecDepth 100000 in
theorem weighMean_lifted (os : Os) (started : os.Started) (H : Type) (enc : TypeId × Value → H) :
    ReturnsInHanded {} Try.checked os 6 .any (Rows.weighMeanSpec.pre6 enc Try.prog Try.f6 Rows.weighMeanRow.domain false) (Rows.weighMeanSpec.post enc Try.prog Try.f6 false true false false) := by
  refine returnsInHanded_of_change (C := Try.checked) ownWeighMean started (by kernel_rfl) Try.func6
    (ChangeSpec.witness6 (enc := enc) (C := Try.checked) false ⟨#[], #[.int .i16 0, .int .u8 0], []⟩ 8 (by kernel_rfl) (by kernel_rfl) (by kernel_rfl) (by kernel_rfl)) ?_
  intro W base args ds gs before hval hW _ _
  exact weighMean_contract H enc W base args ds gs before hval hW
theorem weighMean_said : Rows.WeighMeanSaid :=
  OpenClaim.holds_of_wide 6 Try.f6 rfl rfl rfl rfl rfl rfl rfl ⟨rfl, rfl, rfl, rfl, rfl⟩ rfl rfl rfl rfl rfl (by kernel_rfl) Try.func6 (by kernel_rfl)
    (of_decide_eq_true (by kernel_rfl)) (by unfold Func.isWrapper; first | (rw [if_pos (by decide +kernel)]; kernel_rfl) | (rw [if_neg (by decide +kernel)]; exact ⟨rfl, rfl⟩))
    (fun os started H enc _ => weighMean_lifted os started H enc)
end Go.Proofs.Ytmeilhjloeghhaa
