/-
  THE ROW OF FixChecks.
-/
import Derived.Test.YtkhiogcdamjocaaRows
import Derived.Test.YtkhiogcdamjocaaFix2
import Derived.Test.YtkhiogcdamjocaaOpenPs
import Derived.Test.YtkhiogcdamjocaaLaw
namespace Go.Proofs.Ytkhiogcdamjocaa
open Go.RowKit Go.ChangeShapes Go.WideShapes Go.ChangeAt

theorem ownFixChecks : ownKnob Try.prog.godebug = none := by kernel_rfl
theorem laidOutFixChecks : laidOutB Try.prog = true := by kernel_rfl
theorem fixChecks_read : Try.f4.params.toList.all (fun t => Try.prog.readableRec t && decide (t < Try.prog.types.size)) = true := by kernel_rfl
set_option maxRecDepth 100000 in
theorem fixChecks_contract (H : Type) (enc : TypeId × Value → H) (W : World) (base : Nat) (args : Array Value) (ds gs : List (DataW H)) (before : List MemPlace)
    (hval : ∀ (j : Nat) t v, Try.f4.params[j]? = some t → args[j]? = some v → Value.okWide Try.prog W .any base t v)
    (hW : DataW.Whole enc Try.prog Try.f4.params.toList Rows.fixChecksSpec.vars false W args.toList ds gs before) :
    Calls Try.prog 4 args W fun e W' => ∃ v, e = .returned v ∧ Rows.fixChecksSpec.post enc Try.prog Try.f4 false true false false W args v W' := by
  have hW' := hW
  obtain ⟨p, q, hA0, hV, rfl, hfz, hnd⟩ := hW
  have hA : DataW.TrodAll enc Try.prog W 0 (fun _ => true) true Try.f4.params.toList args.toList ds p := hA0
  rw [Try.params4] at hA hval
  obtain ⟨v0, vs0, d0, ds0, p0, q0, hargs, rfl, rfl, h0, r0⟩ := trodAll_cons hA
  obtain ⟨v1, vs1, d1, ds1, p1, q1, rfl, rfl, rfl, h1, r1⟩ := trodAll_cons r0
  obtain ⟨rfl, rfl, rfl⟩ := trodAll_nil r1
  obtain rfl : args = #[v0, v1] := by cases args; simp_all
  obtain ⟨rfl, rfl⟩ := trodVars_none hV
  obtain ⟨ds0, hd0⟩ := open_dss (hval 0 32 v0 rfl rfl) h0
  obtain ⟨ps1', hp1⟩ := open_props (hval 1 33 v1 rfl rfl) h1
  exact (fixChecks_any _ _ _ _ W hd0 hp1).mono fun e W' ⟨he, hb⟩ => ⟨_, he, law_post laidOutFixChecks fixChecks_read rfl rfl Try.underlying4 hW' hb rfl⟩
set_option maxRecDepth 100000 in
theorem fixChecks_lifted (os : Os) (started : os.Started) (H : Type) (enc : TypeId × Value → H) :
    ReturnsInHanded {} Try.checked os 4 .any (Rows.fixChecksSpec.pre6 enc Try.prog Try.f4 Rows.fixChecksRow.domain false) (Rows.fixChecksSpec.post enc Try.prog Try.f4 false true false false) := by
  refine returnsInHanded_of_change (C := Try.checked) ownFixChecks started (by kernel_rfl) Try.func4
    (ChangeSpec.witness6 (enc := enc) (C := Try.checked) false ⟨#[], #[.slice none 0 0, .slice none 0 0], []⟩ 8 (by kernel_rfl) (by kernel_rfl) (by kernel_rfl) (by kernel_rfl)) ?_
  intro W base args ds gs before hval hW _ _
  exact fixChecks_contract H enc W base args ds gs before hval hW
theorem fixChecks_said : Rows.FixChecksSaid :=
  OpenClaim.holds_of_wide 4 Try.f4 rfl rfl rfl rfl rfl rfl rfl ⟨rfl, rfl, rfl, rfl, rfl⟩ rfl rfl rfl rfl rfl (by kernel_rfl) Try.func4 (by kernel_rfl)
    (of_decide_eq_true (by kernel_rfl)) (by unfold Func.isWrapper; first | (rw [if_pos (by decide +kernel)]; kernel_rfl) | (rw [if_neg (by decide +kernel)]; exact ⟨rfl, rfl⟩))
    (fun os started H enc _ => fixChecks_lifted os started H enc)
end Go.Proofs.Ytkhiogcdamjocaa
