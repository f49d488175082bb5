/-
  THE ROW OF RelFixed.
-/
import Derived.Test.YtajooiainglpmaaRows
import Derived.Test.YtajooiainglpmaaKrlaw2
import Derived.Test.YtajooiainglpmaaKrel3
import Derived.Test.YtajooiainglpmaaKdom4
import Derived.Test.YtajooiainglpmaaKlib1
namespace Go.Proofs.Ytajooiainglpmaa
open Go.RowKit Go.ChangeShapes Go.WideShapes Go.ChangeAt

theorem ownRelFixed : ownKnob Try.prog.godebug = none := by kernel_rfl
theorem laidOutRelFixed : laidOutB Try.prog = true := by kernel_rfl
theorem relFixed_read : Try.f5.params.toList.all (fun t => Try.prog.readableRec t && decide (t < Try.prog.types.size)) = true := by kernel_rfl
set_option maxRecDepth 100000 in
theorem relFixed_contract (H : Type) (enc : TypeId × Value → H) (W : World) (base : Nat) (args : Array Value) (ds gs : List (DataW H)) (before : List MemPlace)
    (hval : ∀ (j : Nat) t v, Try.f5.params[j]? = some t → args[j]? = some v → Value.okWide Try.prog W .any base t v)
    (hW : DataW.Whole enc Try.prog Try.f5.params.toList Rows.relFixedSpec.vars false W args.toList ds gs before) :
    Calls Try.prog 5 args W fun e W' => ∃ v, e = .returned v ∧ Rows.relFixedSpec.post enc Try.prog Try.f5 false true false false W args v W' := by
  have hW' := hW
  obtain ⟨p, q, hA0, hV, rfl, hfz, hnd⟩ := hW
  have hA : DataW.TrodAll enc Try.prog W 0 (fun _ => true) true Try.f5.params.toList args.toList ds p := hA0
  rw [Try.params5] at hA hval
  obtain ⟨v0, vs0, d0, ds0, p0, q0, hargs, rfl, rfl, h0, r0⟩ := trodAll_cons hA
  obtain ⟨v1, vs1, d1, ds1, p1, q1, rfl, rfl, rfl, h1, r1⟩ := trodAll_cons r0
  obtain ⟨rfl, rfl, rfl⟩ := trodAll_nil r1
  obtain rfl : args = #[v0, v1] := by cases args; simp_all
  obtain ⟨rfl, rfl⟩ := trodVars_none hV
  obtain ⟨kd0, va0, vb0, rel0, c0, x0, y0, z0, vv0, cf0, vr0, vs0', rfl, ia0, ib0, iv0⟩ := open_prop (hval 0 34 v0 rfl rfl) h0
  obtain ⟨z1, hl1, hz1⟩ := open_i16s (hval 1 47 v1 rfl rfl) h1
  exact (relFixed_any _ _ _ _ _ _ _ _ _ _ _ _ _ _ W ia0 ib0 iv0 hl1 hz1).mono fun e W' ⟨he, hb⟩ => ⟨_, he, law_post laidOutRelFixed relFixed_read rfl rfl Try.underlying4 hW' hb rfl⟩
set_option maxRecDepth 100000 in
theorem relFixed_lifted (os : Os) (started : os.Started) (H : Type) (enc : TypeId × Value → H) :
    ReturnsInHanded {} Try.checked os 5 .any (Rows.relFixedSpec.pre6 enc Try.prog Try.f5 Rows.relFixedRow.domain false) (Rows.relFixedSpec.post enc Try.prog Try.f5 false true false false) := by
  refine returnsInHanded_of_change (C := Try.checked) ownRelFixed started (by kernel_rfl) Try.func5
    (ChangeSpec.witness6 (enc := enc) (C := Try.checked) false ⟨#[], #[.agg #[.int .i64 0, .slice none 0 0, .slice none 0 0, .int .i64 0, .int .i64 0, .int .i64 0, .int .i64 0, .int .i64 0, .slice none 0 0], .slice none 0 0], []⟩ 8 (by kernel_rfl) (by kernel_rfl) (by kernel_rfl) (by kernel_rfl)) ?_
  intro W base args ds gs before hval hW _ _
  exact relFixed_contract H enc W base args ds gs before hval hW
theorem relFixed_said : Rows.RelFixedSaid :=
  OpenClaim.holds_of_wide 5 Try.f5 rfl rfl rfl rfl rfl rfl rfl ⟨rfl, rfl, rfl, rfl, rfl⟩ rfl rfl rfl rfl rfl (by kernel_rfl) Try.func5 (by kernel_rfl)
    (of_decide_eq_true (by kernel_rfl)) (by unfold Func.isWrapper; first | (rw [if_pos (by decide +kernel)]; kernel_rfl) | (rw [if_neg (by decide +kernel)]; exact ⟨rfl, rfl⟩))
    (fun os started H enc _ => relFixed_lifted os started H enc)
end Go.Proofs.Ytajooiainglpmaa
