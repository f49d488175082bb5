/-
  THE ROW OF LabelMost.
-/
import Derived.Test.YtaekdgikgbdnnaaGreatRows
import Derived.Test.YtaekdgikgbdnnaaGreatKsol11
import Derived.Test.YtaekdgikgbdnnaaGreatKsol1
import Derived.Test.YtaekdgikgbdnnaaGreatKlabel1
import Derived.Test.YtaekdgikgbdnnaaGreatKlib1
namespace Go.Proofs.YtaekdgikgbdnnaaGreat
open Go.RowKit Go.ChangeShapes Go.WideShapes Go.ChangeAt

theorem ownLabelMost : ownKnob Tryz.prog.godebug = none := by kernel_rfl
theorem laidOutLabelMost : laidOutB Tryz.prog = true := by kernel_rfl
theorem labelMost_read : Tryz.f9.params.toList.all (fun t => Tryz.prog.readableRec t && decide (t < Tryz.prog.types.size)) = true := by kernel_rfl
set_option maxRecDepth 100000 in
theorem labelMost_contract (H : Type) (enc : TypeId × Value → H) (W : World) (base : Nat) (args : Array Value) (ds gs : List (DataW H)) (before : List MemPlace)
    (hval : ∀ (j : Nat) t v, Tryz.f9.params[j]? = some t → args[j]? = some v → Value.okWide Tryz.prog W .any base t v)
    (hW : DataW.Whole enc Tryz.prog Tryz.f9.params.toList Rows.labelMostSpec.vars false W args.toList ds gs before) :
    Calls Tryz.prog 9 args W fun e W' => ∃ v, e = .returned v ∧ Rows.labelMostSpec.post enc Tryz.prog Tryz.f9 false true false false W args v W' := by
  have hW' := hW
  obtain ⟨p, q, hA0, hV, rfl, hfz, hnd⟩ := hW
  have hA : DataW.TrodAll enc Tryz.prog W 0 (fun _ => true) true Tryz.f9.params.toList args.toList ds p := hA0
  rw [Tryz.params9] at hA hval
  obtain ⟨v0, vs0, d0, ds0, p0, q0, hargs, rfl, rfl, h0, r0⟩ := trodAll_cons hA
  obtain ⟨v1, vs1, d1, ds1, p1, q1, rfl, rfl, rfl, h1, r1⟩ := trodAll_cons r0
  obtain ⟨v2, vs2, d2, ds2, p2, q2, rfl, rfl, rfl, h2, r2⟩ := trodAll_cons r1
  obtain ⟨rfl, rfl, rfl⟩ := trodAll_nil r2
  obtain rfl : args = #[v0, v1, v2] := by cases args; simp_all
  obtain ⟨rfl, rfl⟩ := trodVars_none hV
  obtain ⟨vd0, vp0, ds0, ps0', rfl, hd0, hp0⟩ := open_case (hval 0 25 v0 rfl rfl) h0
  obtain ⟨x1, rfl, rfl, rfl, wf1⟩ := open_int Tryz.underlying5 (hval 1 5 v1 rfl rfl) h1
  have hx1 : 0 ≤ x1 ∧ x1 ≤ 255 := by simpa [Lit.wf, IntKind.min, IntKind.max, IntKind.bits, IntKind.signed] using wf1
  obtain ⟨sel2, ord2, br2, vw2, ws2, rfl, hw2, hz2⟩ := open_opt (hval 2 28 v2 rfl rfl) h2
  exact (labelMost_any _ _ _ ⟨sel2, ord2, br2, ws2⟩ _ _ x1 W hd0 hp0 hw2 hx1).mono fun e W' ⟨he, hb⟩ => ⟨_, he, law_post laidOutLabelMost labelMost_read rfl rfl Tryz.underlying4 hW' hb rfl⟩
set_option maxRecDepth 100000 in
theorem labelMost_lifted (os : Os) (started : os.Started) (H : Type) (enc : TypeId × Value → H) :
    ReturnsInHanded {} Tryz.checked os 9 .any (Rows.labelMostSpec.pre6 enc Tryz.prog Tryz.f9 Rows.labelMostRow.domain false) (Rows.labelMostSpec.post enc Tryz.prog Tryz.f9 false true false false) := by
  refine returnsInHanded_of_change (C := Tryz.checked) ownLabelMost started (by kernel_rfl) Tryz.func9
    (ChangeSpec.witness6 (enc := enc) (C := Tryz.checked) false ⟨#[], #[.agg #[.slice none 0 0, .slice none 0 0], .int .u8 0, .agg #[.int .i64 0, .int .i64 0, .int .i64 0, .slice none 0 0]], []⟩ 8 (by kernel_rfl) (by kernel_rfl) (by kernel_rfl) (by kernel_rfl)) ?_
  intro W base args ds gs before hval hW _ _
  exact labelMost_contract H enc W base args ds gs before hval hW
theorem labelMost_said : Rows.LabelMostSaid :=
  OpenClaim.holds_of_wide 9 Tryz.f9 rfl rfl rfl rfl rfl rfl rfl ⟨rfl, rfl, rfl, rfl, rfl⟩ rfl rfl rfl rfl rfl (by kernel_rfl) Tryz.func9 (by kernel_rfl)
    (of_decide_eq_true (by kernel_rfl)) (by unfold Func.isWrapper; first | (rw [if_pos (by decide +kernel)]; kernel_rfl) | (rw [if_neg (by decide +kernel)]; exact ⟨rfl, rfl⟩))
    (fun os started H enc _ => labelMost_lifted os started H enc)
end Go.Proofs.YtaekdgikgbdnnaaGreat
