/-
  THE ROW OF RelLess.
-/
import Derived.Test.YtajooiainglpmaaGreatRows
import Derived.Test.YtajooiainglpmaaGreatKrlaw2
import Derived.Test.YtajooiainglpmaaGreatKrel3
import Derived.Test.YtajooiainglpmaaGreatKlin8
import Derived.Test.YtajooiainglpmaaGreatKlib1
namespace Go.Proofs.YtajooiainglpmaaGreat
open Go.RowKit Go.ChangeShapes Go.WideShapes Go.ChangeAt

theorem ownRelLess : ownKnob Tryz.prog.godebug = none := by kernel_rfl
theorem laidOutRelLess : laidOutB Tryz.prog = true := by kernel_rfl
theorem relLess_read : Tryz.f4.params.toList.all (fun t => Tryz.prog.readableRec t && decide (t < Tryz.prog.types.size)) = true := by kernel_rfl
set_option maxRecDepth 100000 in
theorem relLess_contract (H : Type) (enc : TypeId × Value → H) (W : World) (base : Nat) (args : Array Value) (ds gs : List (DataW H)) (before : List MemPlace)
    (hval : ∀ (j : Nat) t v, Tryz.f4.params[j]? = some t → args[j]? = some v → Value.okWide Tryz.prog W .any base t v)
    (hW : DataW.Whole enc Tryz.prog Tryz.f4.params.toList Rows.relLessSpec.vars false W args.toList ds gs before) :
    Calls Tryz.prog 4 args W fun e W' => ∃ v, e = .returned v ∧ Rows.relLessSpec.post enc Tryz.prog Tryz.f4 false true false false W args v W' := by
  have hW' := hW
  obtain ⟨p, q, hA0, hV, rfl, hfz, hnd⟩ := hW
  have hA : DataW.TrodAll enc Tryz.prog W 0 (fun _ => true) true Tryz.f4.params.toList args.toList ds p := hA0
  rw [Tryz.params4] at hA hval
  obtain ⟨v0, vs0, d0, ds0, p0, q0, hargs, rfl, rfl, h0, r0⟩ := trodAll_cons hA
  obtain ⟨v1, vs1, d1, ds1, p1, q1, rfl, rfl, rfl, h1, r1⟩ := trodAll_cons r0
  obtain ⟨v2, vs2, d2, ds2, p2, q2, rfl, rfl, rfl, h2, r2⟩ := trodAll_cons r1
  obtain ⟨rfl, rfl, rfl⟩ := trodAll_nil r2
  obtain rfl : args = #[v0, v1, v2] := by cases args; simp_all
  obtain ⟨rfl, rfl⟩ := trodVars_none hV
  obtain ⟨kd0, va0, vb0, rel0, c0, x0, y0, z0, vv0, cf0, vr0, vs0', rfl, ia0, ib0, iv0⟩ := open_prop (hval 0 30 v0 rfl rfl) h0
  obtain ⟨ds1, hd1⟩ := open_dss (hval 1 33 v1 rfl rfl) h1
  obtain ⟨ds2, hd2⟩ := open_dss (hval 2 33 v2 rfl rfl) h2
  exact (relLess_any _ _ _ _ _ _ _ _ _ _ _ _ _ _ _ _ W ia0 ib0 iv0 hd1 hd2).mono fun e W' ⟨he, hb⟩ => ⟨_, he, law_post laidOutRelLess relLess_read rfl rfl Tryz.underlying4 hW' hb rfl⟩
set_option maxRecDepth 100000 in
theorem relLess_lifted (os : Os) (started : os.Started) (H : Type) (enc : TypeId × Value → H) :
    ReturnsInHanded {} Tryz.checked os 4 .any (Rows.relLessSpec.pre6 enc Tryz.prog Tryz.f4 Rows.relLessRow.domain false) (Rows.relLessSpec.post enc Tryz.prog Tryz.f4 false true false false) := by
  refine returnsInHanded_of_change (C := Tryz.checked) ownRelLess started (by kernel_rfl) Tryz.func4
    (ChangeSpec.witness6 (enc := enc) (C := Tryz.checked) false ⟨#[], #[.agg #[.int .i64 0, .slice none 0 0, .slice none 0 0, .int .i64 0, .int .i64 0, .int .i64 0, .int .i64 0, .int .i64 0, .slice none 0 0], .slice none 0 0, .slice none 0 0], []⟩ 8 (by kernel_rfl) (by kernel_rfl) (by kernel_rfl) (by kernel_rfl)) ?_
  intro W base args ds gs before hval hW _ _
  exact relLess_contract H enc W base args ds gs before hval hW
theorem relLess_said : Rows.RelLessSaid :=
  OpenClaim.holds_of_wide 4 Tryz.f4 rfl rfl rfl rfl rfl rfl rfl ⟨rfl, rfl, rfl, rfl, rfl⟩ rfl rfl rfl rfl rfl (by kernel_rfl) Tryz.func4 (by kernel_rfl)
    (of_decide_eq_true (by kernel_rfl)) (by unfold Func.isWrapper; first | (rw [if_pos (by decide +kernel)]; kernel_rfl) | (rw [if_neg (by decide +kernel)]; exact ⟨rfl, rfl⟩))
    (fun os started H enc _ => relLess_lifted os started H enc)
end Go.Proofs.YtajooiainglpmaaGreat
