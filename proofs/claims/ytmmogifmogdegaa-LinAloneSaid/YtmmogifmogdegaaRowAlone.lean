/-
  THE ROW OF LinAlone.
-/
import Derived.Test.YtmmogifmogdegaaRows
import Derived.Test.YtmmogifmogdegaaAlone
import Derived.Test.YtmmogifmogdegaaOpen
import Derived.Test.YtmmogifmogdegaaLaw
namespace Go.Proofs.Ytmmogifmogdegaa
open Go.RowKit Go.ChangeShapes Go.WideShapes Go.ChangeAt

theorem ownAlone : ownKnob Try.prog.godebug = none := by kernel_rfl
theorem laidOutAlone : laidOutB Try.prog = true := by kernel_rfl
theorem linAlone_read : Try.f4.params.toList.all (fun t => Try.prog.readableRec t && decide (t < Try.prog.types.size)) = true := by kernel_rfl
set_option maxRecDepth 100000 in
theorem linAlone_contract (H : Type) (enc : TypeId × Value → H) (W : World) (base : Nat) (args : Array Value) (ds gs : List (DataW H)) (before : List MemPlace)
    (hval : ∀ (j : Nat) t v, Try.f4.params[j]? = some t → args[j]? = some v → Value.okWide Try.prog W .any base t v)
    (hW : DataW.Whole enc Try.prog Try.f4.params.toList Rows.linAloneSpec.vars false W args.toList ds gs before) :
    Calls Try.prog 4 args W fun e W' => ∃ v, e = .returned v ∧ Rows.linAloneSpec.post enc Try.prog Try.f4 false true false false W args v W' := by
  have hW' := hW
  obtain ⟨p, q, hA0, hV, rfl, hfz, hnd⟩ := hW
  have hA : DataW.TrodAll enc Try.prog W 0 (fun _ => true) true Try.f4.params.toList args.toList ds p := hA0
  rw [Try.params4] at hA hval
  obtain ⟨v0, vs0, d0, ds0, p0, q0, hargs, rfl, rfl, h0, r0⟩ := trodAll_cons hA
  obtain ⟨v1, vs1, d1, ds1, p1, q1, rfl, rfl, rfl, h1, r1⟩ := trodAll_cons r0
  obtain ⟨v2, vs2, d2, ds2, p2, q2, rfl, rfl, rfl, h2, r2⟩ := trodAll_cons r1
  obtain ⟨v3, vs3, d3, ds3, p3, q3, rfl, rfl, rfl, h3, r3⟩ := trodAll_cons r2
  obtain ⟨rfl, rfl, rfl⟩ := trodAll_nil r3
  obtain rfl : args = #[v0, v1, v2, v3] := by cases args; simp_all
  obtain ⟨rfl, rfl⟩ := trodVars_none hV
  obtain ⟨x0, rfl, rfl, rfl, wf0⟩ := open_int Try.underlying28 (hval 0 28 v0 rfl rfl) h0
  have hx0 : -32768 ≤ x0 ∧ x0 ≤ 32767 := by simpa [Lit.wf, IntKind.min, IntKind.max, IntKind.bits, IntKind.signed] using wf0
  obtain ⟨x1, rfl, rfl, rfl, wf1⟩ := open_int Try.underlying5 (hval 1 5 v1 rfl rfl) h1
  have hx1 : 0 ≤ x1 ∧ x1 ≤ 255 := by simpa [Lit.wf, IntKind.min, IntKind.max, IntKind.bits, IntKind.signed] using wf1
  obtain ⟨x2, rfl, rfl, rfl, wf2⟩ := open_int Try.underlying28 (hval 2 28 v2 rfl rfl) h2
  have hx2 : -32768 ≤ x2 ∧ x2 ≤ 32767 := by simpa [Lit.wf, IntKind.min, IntKind.max, IntKind.bits, IntKind.signed] using wf2
  obtain ⟨l3, hl3⟩ := open_rgs (hval 3 29 v3 rfl rfl) h3
  exact (linAlone_any _ _ _ _ _ W hl3 hx0 hx1 hx2).mono fun e W' ⟨he, hb⟩ => ⟨_, he, law_post laidOutAlone linAlone_read rfl rfl Try.underlying4 hW' hb rfl⟩
set_option maxRecDepth 100000 in
theorem linAlone_lifted (os : Os) (started : os.Started) (H : Type) (enc : TypeId × Value → H) :
    ReturnsInHanded {} Try.checked os 4 .any (Rows.linAloneSpec.pre6 enc Try.prog Try.f4 Rows.linAloneRow.domain false) (Rows.linAloneSpec.post enc Try.prog Try.f4 false true false false) := by
  refine returnsInHanded_of_change (C := Try.checked) ownAlone started (by kernel_rfl) Try.func4
    (ChangeSpec.witness6 (enc := enc) (C := Try.checked) false ⟨#[], #[.int .i16 0, .int .u8 0, .int .i16 0, .slice none 0 0], []⟩ 8 (by kernel_rfl) (by kernel_rfl) (by kernel_rfl) (by kernel_rfl)) ?_
  intro W base args ds gs before hval hW _ _
  exact linAlone_contract H enc W base args ds gs before hval hW
theorem linAlone_said : Rows.LinAloneSaid :=
  OpenClaim.holds_of_wide 4 Try.f4 rfl rfl rfl rfl rfl rfl rfl ⟨rfl, rfl, rfl, rfl, rfl⟩ rfl rfl rfl rfl rfl (by kernel_rfl) Try.func4 (by kernel_rfl)
    (of_decide_eq_true (by kernel_rfl)) (by unfold Func.isWrapper; first | (rw [if_pos (by decide +kernel)]; kernel_rfl) | (rw [if_neg (by decide +kernel)]; exact ⟨rfl, rfl⟩))
    (fun os started H enc _ => linAlone_lifted os started H enc)
end Go.Proofs.Ytmmogifmogdegaa
