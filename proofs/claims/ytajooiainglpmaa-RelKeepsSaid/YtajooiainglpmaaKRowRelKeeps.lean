/-
  THE ROW OF RelKeeps.
-/
import Derived.Test.YtajooiainglpmaaRows
import Derived.Test.YtajooiainglpmaaKrlaw1
import Derived.Test.YtajooiainglpmaaKrel3
import Derived.Test.YtajooiainglpmaaKlin6
import Derived.Test.YtajooiainglpmaaKlib1
namespace Go.Proofs.Ytajooiainglpmaa
open Go.RowKit Go.ChangeShapes Go.WideShapes Go.ChangeAt

theorem ownRelKeeps : ownKnob Try.prog.godebug = none := by kernel_rfl
theorem laidOutRelKeeps : laidOutB Try.prog = true := by kernel_rfl
theorem relKeeps_read : Try.f4.params.toList.all (fun t => Try.prog.readableRec t && decide (t < Try.prog.types.size)) = true := by kernel_rfl
set_option maxRecDepth 100000 in
theorem relKeeps_contract (H : Type) (enc : TypeId × Value → H) (W : World) (base : Nat) (args : Array Value) (ds gs : List (DataW H)) (before : List MemPlace)
    (hval : ∀ (j : Nat) t v, Try.f4.params[j]? = some t → args[j]? = some v → Value.okWide Try.prog W .any base t v)
    (hW : DataW.Whole enc Try.prog Try.f4.params.toList Rows.relKeepsSpec.vars false W args.toList ds gs before) :
    Calls Try.prog 4 args W fun e W' => ∃ v, e = .returned v ∧ Rows.relKeepsSpec.post enc Try.prog Try.f4 false true false false W args v W' := by
  have hW' := hW
  obtain ⟨p, q, hA0, hV, rfl, hfz, hnd⟩ := hW
  have hA : DataW.TrodAll enc Try.prog W 0 (fun _ => true) true Try.f4.params.toList args.toList ds p := hA0
  rw [Try.params4] at hA hval
  obtain ⟨v0, vs0, d0, ds0, p0, q0, hargs, rfl, rfl, h0, r0⟩ := trodAll_cons hA
  obtain ⟨v1, vs1, d1, ds1, p1, q1, rfl, rfl, rfl, h1, r1⟩ := trodAll_cons r0
  obtain ⟨v2, vs2, d2, ds2, p2, q2, rfl, rfl, rfl, h2, r2⟩ := trodAll_cons r1
  obtain ⟨rfl, rfl, rfl⟩ := trodAll_nil r2
  obtain rfl : args = #[v0, v1, v2] := by cases args; simp_all
  obtain ⟨rfl, rfl⟩ := trodVars_none hV
  obtain ⟨kd0, va0, vb0, rel0, c0, x0, y0, z0, vv0, cf0, vr0, vs0', rfl, ia0, ib0, iv0⟩ := open_prop (hval 0 34 v0 rfl rfl) h0
  obtain ⟨ds1, hd1⟩ := open_dss (hval 1 23 v1 rfl rfl) h1
  obtain ⟨z2, hl2, hz2⟩ := open_u16s (hval 2 39 v2 rfl rfl) h2
  exact (relKeeps_any _ _ _ _ _ _ _ _ _ _ _ _ _ _ _ _ W ia0 ib0 iv0 hd1 hl2 hz2).mono fun e W' ⟨he, hb⟩ => ⟨_, he, law_post laidOutRelKeeps relKeeps_read rfl rfl Try.underlying4 hW' hb rfl⟩
set_option maxRecDepth 100000 in
theorem relKeeps_lifted (os : Os) (started : os.Started) (H : Type) (enc : TypeId × Value → H) :
    ReturnsInHanded {} Try.checked os 4 .any (Rows.relKeepsSpec.pre6 enc Try.prog Try.f4 Rows.relKeepsRow.domain false) (Rows.relKeepsSpec.post enc Try.prog Try.f4 false true false false) := by
  refine returnsInHanded_of_change (C := Try.checked) ownRelKeeps started (by kernel_rfl) Try.func4
    (ChangeSpec.witness6 (enc := enc) (C := Try.checked) false ⟨#[], #[.agg #[.int .i64 0, .slice none 0 0, .slice none 0 0, .int .i64 0, .int .i64 0, .int .i64 0, .int .i64 0, .int .i64 0, .slice none 0 0], .slice none 0 0, .slice none 0 0], []⟩ 8 (by kernel_rfl) (by kernel_rfl) (by kernel_rfl) (by kernel_rfl)) ?_
  intro W base args ds gs before hval hW _ _
  exact relKeeps_contract H enc W base args ds gs before hval hW
theorem relKeeps_said : Rows.RelKeepsSaid :=
  OpenClaim.holds_of_wide 4 Try.f4 rfl rfl rfl rfl rfl rfl rfl ⟨rfl, rfl, rfl, rfl, rfl⟩ rfl rfl rfl rfl rfl (by kernel_rfl) Try.func4 (by kernel_rfl)
    (of_decide_eq_true (by kernel_rfl)) (by unfold Func.isWrapper; first | (rw [if_pos (by decide +kernel)]; kernel_rfl) | (rw [if_neg (by decide +kernel)]; exact ⟨rfl, rfl⟩))
    (fun os started H enc _ => relKeeps_lifted os started H enc)
end Go.Proofs.Ytajooiainglpmaa
