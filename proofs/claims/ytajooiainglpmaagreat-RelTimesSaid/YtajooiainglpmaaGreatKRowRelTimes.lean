/-
  THE ROW OF RelTimes.
-/
import Derived.Test.YtajooiainglpmaaGreatRows
import Derived.Test.YtajooiainglpmaaGreatKrlaw3
import Derived.Test.YtajooiainglpmaaGreatKdom4
import Derived.Test.YtajooiainglpmaaGreatKlib1
namespace Go.Proofs.YtajooiainglpmaaGreat
open Go.RowKit Go.ChangeShapes Go.WideShapes Go.ChangeAt

theorem ownRelTimes : ownKnob Tryz.prog.godebug = none := by kernel_rfl
theorem laidOutRelTimes : laidOutB Tryz.prog = true := by kernel_rfl
theorem relTimes_read : Tryz.f3.params.toList.all (fun t => Tryz.prog.readableRec t && decide (t < Tryz.prog.types.size)) = true := by kernel_rfl
set_option maxRecDepth 100000 in
theorem relTimes_contract (H : Type) (enc : TypeId × Value → H) (W : World) (base : Nat) (args : Array Value) (ds gs : List (DataW H)) (before : List MemPlace)
    (hval : ∀ (j : Nat) t v, Tryz.f3.params[j]? = some t → args[j]? = some v → Value.okWide Tryz.prog W .any base t v)
    (hW : DataW.Whole enc Tryz.prog Tryz.f3.params.toList Rows.relTimesSpec.vars false W args.toList ds gs before) :
    Calls Tryz.prog 3 args W fun e W' => ∃ v, e = .returned v ∧ Rows.relTimesSpec.post enc Tryz.prog Tryz.f3 false true false false W args v W' := by
  have hW' := hW
  obtain ⟨p, q, hA0, hV, rfl, hfz, hnd⟩ := hW
  have hA : DataW.TrodAll enc Tryz.prog W 0 (fun _ => true) true Tryz.f3.params.toList args.toList ds p := hA0
  rw [Tryz.params3] at hA hval
  obtain ⟨v0, vs0, d0, ds0, p0, q0, hargs, rfl, rfl, h0, r0⟩ := trodAll_cons hA
  obtain ⟨v1, vs1, d1, ds1, p1, q1, rfl, rfl, rfl, h1, r1⟩ := trodAll_cons r0
  obtain ⟨v2, vs2, d2, ds2, p2, q2, rfl, rfl, rfl, h2, r2⟩ := trodAll_cons r1
  obtain ⟨v3, vs3, d3, ds3, p3, q3, rfl, rfl, rfl, h3, r3⟩ := trodAll_cons r2
  obtain ⟨rfl, rfl, rfl⟩ := trodAll_nil r3
  obtain rfl : args = #[v0, v1, v2, v3] := by cases args; simp_all
  obtain ⟨rfl, rfl⟩ := trodVars_none hV
  obtain ⟨l0, hl0⟩ := open_rgs (hval 0 22 v0 rfl rfl) h0
  obtain ⟨l1, hl1⟩ := open_rgs (hval 1 22 v1 rfl rfl) h1
  obtain ⟨x2, rfl, rfl, rfl, wf2⟩ := open_int Tryz.underlying23 (hval 2 23 v2 rfl rfl) h2
  have hx2 : 0 ≤ x2 ∧ x2 ≤ 65535 := by simpa [Lit.wf, IntKind.min, IntKind.max, IntKind.bits, IntKind.signed] using wf2
  obtain ⟨x3, rfl, rfl, rfl, wf3⟩ := open_int Tryz.underlying23 (hval 3 23 v3 rfl rfl) h3
  have hx3 : 0 ≤ x3 ∧ x3 ≤ 65535 := by simpa [Lit.wf, IntKind.min, IntKind.max, IntKind.bits, IntKind.signed] using wf3
  exact (relTimes_any _ _ _ _ _ _ W hl0 hl1 hx2 hx3).mono fun e W' ⟨he, hb⟩ => ⟨_, he, law_post laidOutRelTimes relTimes_read rfl rfl Tryz.underlying4 hW' hb rfl⟩
set_option maxRecDepth 100000 in
theorem relTimes_lifted (os : Os) (started : os.Started) (H : Type) (enc : TypeId × Value → H) :
    ReturnsInHanded {} Tryz.checked os 3 .any (Rows.relTimesSpec.pre6 enc Tryz.prog Tryz.f3 Rows.relTimesRow.domain false) (Rows.relTimesSpec.post enc Tryz.prog Tryz.f3 false true false false) := by
  refine returnsInHanded_of_change (C := Tryz.checked) ownRelTimes started (by kernel_rfl) Tryz.func3
    (ChangeSpec.witness6 (enc := enc) (C := Tryz.checked) false ⟨#[], #[.slice none 0 0, .slice none 0 0, .int .u16 0, .int .u16 0], []⟩ 8 (by kernel_rfl) (by kernel_rfl) (by kernel_rfl) (by kernel_rfl)) ?_
  intro W base args ds gs before hval hW _ _
  exact relTimes_contract H enc W base args ds gs before hval hW
theorem relTimes_said : Rows.RelTimesSaid :=
  OpenClaim.holds_of_wide 3 Tryz.f3 rfl rfl rfl rfl rfl rfl rfl ⟨rfl, rfl, rfl, rfl, rfl⟩ rfl rfl rfl rfl rfl (by kernel_rfl) Tryz.func3 (by kernel_rfl)
    (of_decide_eq_true (by kernel_rfl)) (by unfold Func.isWrapper; first | (rw [if_pos (by decide +kernel)]; kernel_rfl) | (rw [if_neg (by decide +kernel)]; exact ⟨rfl, rfl⟩))
    (fun os started H enc _ => relTimes_lifted os started H enc)
end Go.Proofs.YtajooiainglpmaaGreat
