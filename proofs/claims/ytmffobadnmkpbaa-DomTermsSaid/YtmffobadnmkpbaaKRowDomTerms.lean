/-
  THE ROW OF DomTerms.
-/
import Derived.Test.YtmffobadnmkpbaaRows
import Derived.Test.YtmffobadnmkpbaaKdt4
import Derived.Test.YtmffobadnmkpbaaKdom1
import Derived.ProofKit
import Derived.ChangeMaps5
import Derived.Test.YtmffobadnmkpbaaKlib1
namespace Go.Proofs.Ytmffobadnmkpbaa
open Go.RowKit Go.ChangeShapes Go.WideShapes Go.ChangeAt

theorem ownDomTerms : ownKnob Try.prog.godebug = none := by kernel_rfl
theorem laidOutDomTerms : laidOutB Try.prog = true := by kernel_rfl
theorem domTerms_read : Try.f13.params.toList.all (fun t => Try.prog.readableRec t && decide (t < Try.prog.types.size)) = true := by kernel_rfl
set_option maxRecDepth 100000 in
theorem domTerms_contract (H : Type) (enc : TypeId × Value → H) (W : World) (base : Nat) (args : Array Value) (ds gs : List (DataW H)) (before : List MemPlace)
    (hval : ∀ (j : Nat) t v, Try.f13.params[j]? = some t → args[j]? = some v → Value.okWide Try.prog W .any base t v)
    (hW : DataW.Whole enc Try.prog Try.f13.params.toList Rows.domTermsSpec.vars false W args.toList ds gs before) :
    Calls Try.prog 13 args W fun e W' => ∃ v, e = .returned v ∧ Rows.domTermsSpec.post enc Try.prog Try.f13 false true false false W args v W' := by
  have hW' := hW
  obtain ⟨p, q, hA0, hV, rfl, hfz, hnd⟩ := hW
  have hA : DataW.TrodAll enc Try.prog W 0 (fun _ => true) true Try.f13.params.toList args.toList ds p := hA0
  rw [Try.params13] at hA hval
  obtain ⟨v0, vs0, d0, ds0, p0, q0, hargs, rfl, rfl, h0, r0⟩ := trodAll_cons hA
  obtain ⟨v1, vs1, d1, ds1, p1, q1, rfl, rfl, rfl, h1, r1⟩ := trodAll_cons r0
  obtain ⟨rfl, rfl, rfl⟩ := trodAll_nil r1
  obtain rfl : args = #[v0, v1] := by cases args; simp_all
  obtain ⟨rfl, rfl⟩ := trodVars_none hV
  obtain ⟨l0, hl0⟩ := open_rgs (hval 0 61 v0 rfl rfl) h0
  obtain ⟨s1, rfl, rfl, rfl, hs1⟩ := Go.ChangeMaps.open_string Try.underlying9 (hval 1 9 v1 rfl rfl) h1
  exact (domTerms_any v0 l0 s1 W hl0).mono fun e W' ⟨he, hb⟩ => ⟨_, he, law_post laidOutDomTerms domTerms_read rfl rfl Try.underlying4 hW' hb rfl⟩
set_option maxRecDepth 100000 in
theorem domTerms_lifted (os : Os) (started : os.Started) (H : Type) (enc : TypeId × Value → H) :
    ReturnsInHanded {} Try.checked os 13 .any (Rows.domTermsSpec.pre6 enc Try.prog Try.f13 Rows.domTermsRow.domain false) (Rows.domTermsSpec.post enc Try.prog Try.f13 false true false false) := by
  refine returnsInHanded_of_change (C := Try.checked) ownDomTerms started (by kernel_rfl) Try.func13
    (ChangeSpec.witness6 (enc := enc) (C := Try.checked) false ⟨#[], #[.slice none 0 0, .string ByteArray.empty], []⟩ 8 (by kernel_rfl) (by kernel_rfl) (by kernel_rfl) (by kernel_rfl)) ?_
  intro W base args ds gs before hval hW _ _
  exact domTerms_contract H enc W base args ds gs before hval hW
theorem domTerms_said : Rows.DomTermsSaid :=
  OpenClaim.holds_of_wide 13 Try.f13 rfl rfl rfl rfl rfl rfl rfl ⟨rfl, rfl, rfl, rfl, rfl⟩ rfl rfl rfl rfl rfl (by kernel_rfl) Try.func13 (by kernel_rfl)
    (of_decide_eq_true (by kernel_rfl)) (by unfold Func.isWrapper; first | (rw [if_pos (by decide +kernel)]; kernel_rfl) | (rw [if_neg (by decide +kernel)]; exact ⟨rfl, rfl⟩))
    (fun os started H enc _ => domTerms_lifted os started H enc)
end Go.Proofs.Ytmffobadnmkpbaa
