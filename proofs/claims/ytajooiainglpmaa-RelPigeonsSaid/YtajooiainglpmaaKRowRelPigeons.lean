/-
  THE ROW OF RelPigeons.
-/
import Derived.Test.YtajooiainglpmaaRows
import Derived.Test.YtajooiainglpmaaKrlaw3
import Derived.Test.YtajooiainglpmaaKlib1
namespace Go.Proofs.Ytajooiainglpmaa
open Go.RowKit Go.ChangeShapes Go.WideShapes Go.ChangeAt

theorem ownRelPigeons : ownKnob Try.prog.godebug = none := by kernel_rfl
theorem laidOutRelPigeons : laidOutB Try.prog = true := by kernel_rfl
theorem relPigeons_read : Try.f3.params.toList.all (fun t => Try.prog.readableRec t && decide (t < Try.prog.types.size)) = true := by kernel_rfl
set_option maxRecDepth 100000 in
theorem relPigeons_contract (H : Type) (enc : TypeId × Value → H) (W : World) (base : Nat) (args : Array Value) (ds gs : List (DataW H)) (before : List MemPlace)
    (hval : ∀ (j : Nat) t v, Try.f3.params[j]? = some t → args[j]? = some v → Value.okWide Try.prog W .any base t v)
    (hW : DataW.Whole enc Try.prog Try.f3.params.toList Rows.relPigeonsSpec.vars false W args.toList ds gs before) :
    Calls Try.prog 3 args W fun e W' => ∃ v, e = .returned v ∧ Rows.relPigeonsSpec.post enc Try.prog Try.f3 false true false false W args v W' := by
  have hW' := hW
  obtain ⟨p, q, hA0, hV, rfl, hfz, hnd⟩ := hW
  have hA : DataW.TrodAll enc Try.prog W 0 (fun _ => true) true Try.f3.params.toList args.toList ds p := hA0
  rw [Try.params3] at hA hval
  obtain ⟨v0, vs0, d0, ds0, p0, q0, hargs, rfl, rfl, h0, r0⟩ := trodAll_cons hA
  obtain ⟨v1, vs1, d1, ds1, p1, q1, rfl, rfl, rfl, h1, r1⟩ := trodAll_cons r0
  obtain ⟨rfl, rfl, rfl⟩ := trodAll_nil r1
  obtain rfl : args = #[v0, v1] := by cases args; simp_all
  obtain ⟨rfl, rfl⟩ := trodVars_none hV
  obtain ⟨z0, hl0, hz0⟩ := open_u8s (hval 0 22 v0 rfl rfl) h0
  obtain ⟨x1, rfl, rfl, rfl, wf1⟩ := open_int Try.underlying5 (hval 1 5 v1 rfl rfl) h1
  have hx1 : 0 ≤ x1 ∧ x1 ≤ 255 := by simpa [Lit.wf, IntKind.min, IntKind.max, IntKind.bits, IntKind.signed] using wf1
  exact (relPigeons_any _ _ _ W hl0 hz0 hx1).mono fun e W' ⟨he, hb⟩ => ⟨_, he, law_post laidOutRelPigeons relPigeons_read rfl rfl Try.underlying4 hW' hb rfl⟩
set_option maxRecDepth 100000 in
theorem relPigeons_lifted (os : Os) (started : os.Started) (H : Type) (enc : TypeId × Value → H) :
    ReturnsInHanded {} Try.checked os 3 .any (Rows.relPigeonsSpec.pre6 enc Try.prog Try.f3 Rows.relPigeonsRow.domain false) (Rows.relPigeonsSpec.post enc Try.prog Try.f3 false true false false) := by
  refine returnsInHanded_of_change (C := Try.checked) ownRelPigeons started (by kernel_rfl) Try.func3
    (ChangeSpec.witness6 (enc := enc) (C := Try.checked) false ⟨#[], #[.slice none 0 0, .int .u8 0], []⟩ 8 (by kernel_rfl) (by kernel_rfl) (by kernel_rfl) (by kernel_rfl)) ?_
  intro W base args ds gs before hval hW _ _
  exact relPigeons_contract H enc W base args ds gs before hval hW
theorem relPigeons_said : Rows.RelPigeonsSaid :=
  OpenClaim.holds_of_wide 3 Try.f3 rfl rfl rfl rfl rfl rfl rfl ⟨rfl, rfl, rfl, rfl, rfl⟩ rfl rfl rfl rfl rfl (by kernel_rfl) Try.func3 (by kernel_rfl)
    (of_decide_eq_true (by kernel_rfl)) (by unfold Func.isWrapper; first | (rw [if_pos (by decide +kernel)]; kernel_rfl) | (rw [if_neg (by decide +kernel)]; exact ⟨rfl, rfl⟩))
    (fun os started H enc _ => relPigeons_lifted os started H enc)
end Go.Proofs.Ytajooiainglpmaa
