/-
  THE ROW OF LabelSolves.
-/
import Derived.Test.YtaekdgikgbdnnaaGreatRows
import Derived.Test.YtaekdgikgbdnnaaGreatKref15
import Derived.Test.YtaekdgikgbdnnaaGreatKsol1
import Derived.Test.YtaekdgikgbdnnaaGreatKlabel1
import Derived.Test.YtaekdgikgbdnnaaGreatKlib1
namespace Go.Proofs.YtaekdgikgbdnnaaGreat
section
open Go.RowKit Go.ChangeShapes Go.WideShapes Go.ChangeAt
theorem ownLabelSolves:ownKnob Tryz.prog.godebug=none:=by kernel_rfl
theorem laidOutLabelSolves:laidOutB Tryz.prog=true:=by kernel_rfl
theorem labelSolves_read:Tryz.f4.params.toList.all (fun t=>Tryz.prog.readableRec t&&decide (t<Tryz.prog.types.size))=true:=by kernel_rfl
set_option maxRecDepth 100000
theorem labelSolves_contract (H:Type) (enc:TypeId×Value->H) (W:World) (base:Nat) (args:Array Value) (ds gs:List (DataW H)) (before:List MemPlace)
  (hval:∀ (j:Nat) t v,Tryz.f4.params[j]?=some t->args[j]?=some v->Value.okWide Tryz.prog W .any base t v)
  (hW:DataW.Whole enc Tryz.prog Tryz.f4.params.toList Rows.labelSolvesSpec.vars false W args.toList ds gs before) :
  Calls Tryz.prog 4 args W fun e W'=>∃ v,e=.returned v/\Rows.labelSolvesSpec.post enc Tryz.prog Tryz.f4 false true false false W args v W':=by
 have hW':=hW
 obtain ⟨p,q,hA0,hV,rfl,hfz,hnd⟩:=hW
 have hA:DataW.TrodAll enc Tryz.prog W 0 (fun _=>true) true Tryz.f4.params.toList args.toList ds p:=hA0
 rw [Tryz.params4] at hA hval
 obtain ⟨v0,vs0,d0,ds0,p0,q0,hargs,rfl,rfl,h0,r0⟩:=trodAll_cons hA
 obtain ⟨v1,vs1,d1,ds1,p1,q1,rfl,rfl,rfl,h1,r1⟩:=trodAll_cons r0
 obtain ⟨v2,vs2,d2,ds2,p2,q2,rfl,rfl,rfl,h2,r2⟩:=trodAll_cons r1
 obtain ⟨v3,vs3,d3,ds3,p3,q3,rfl,rfl,rfl,h3,r3⟩:=trodAll_cons r2
 obtain ⟨v4,vs4,d4,ds4,p4,q4,rfl,rfl,rfl,h4,r4⟩:=trodAll_cons r3
 obtain ⟨rfl,rfl,rfl⟩:=trodAll_nil r4
 obtain rfl:args=#[v0,v1,v2,v3,v4]:=by cases args;simp_all
 obtain ⟨rfl,rfl⟩:=trodVars_none hV
 obtain ⟨vd0,vp0,ds0,ps0',rfl,hd0,hp0⟩:=open_case (hval 0 25 v0 rfl rfl) h0
 obtain ⟨z1,hl1,hz1⟩:=open_ints' (hval 1 26 v1 rfl rfl) h1
 obtain ⟨sel2,ord2,br2,vw2,ws2,rfl,hw2,hz2⟩:=open_opt (hval 2 28 v2 rfl rfl) h2
 obtain ⟨x3,rfl,rfl,rfl,wf3⟩:=open_int Tryz.underlying3 (hval 3 3 v3 rfl rfl) h3
 have hx3:-9223372036854775808<=x3/\x3<=9223372036854775807:=by simpa [Lit.wf,IntKind.min,IntKind.max,IntKind.bits,IntKind.signed] using wf3
 obtain ⟨x4,rfl,rfl,rfl,wf4⟩:=open_int Tryz.underlying3 (hval 4 3 v4 rfl rfl) h4
 have hx4:-9223372036854775808<=x4/\x4<=9223372036854775807:=by simpa [Lit.wf,IntKind.min,IntKind.max,IntKind.bits,IntKind.signed] using wf4
 exact (labelSolves_any _ _ _ _ ⟨sel2,ord2,br2,ws2⟩ _ _ _ x3 x4 W hd0 hp0 hl1 hw2).mono fun e W' ⟨he,hb⟩=>⟨_,he,law_post laidOutLabelSolves labelSolves_read rfl rfl Tryz.underlying4 hW' hb rfl⟩
theorem labelSolves_lifted (os:Os) (started:os.Started) (H:Type) (enc:TypeId×Value->H) :
  ReturnsInHanded {} Tryz.checked os 4 .any (Rows.labelSolvesSpec.pre6 enc Tryz.prog Tryz.f4 Rows.labelSolvesRow.domain false) (Rows.labelSolvesSpec.post enc Tryz.prog Tryz.f4 false true false false):=by
 refine returnsInHanded_of_change (C:=Tryz.checked) ownLabelSolves started (by kernel_rfl) Tryz.func4
  (ChangeSpec.witness6 (enc:=enc) (C:=Tryz.checked) false ⟨#[],#[.agg #[.slice none 0 0,.slice none 0 0],.slice none 0 0,.agg #[.int .i64 0,.int .i64 0,.int .i64 0,.slice none 0 0],.int .i64 0,.int .i64 0],[]⟩ 8 (by kernel_rfl) (by kernel_rfl) (by kernel_rfl) (by kernel_rfl)) ?_
 intro W base args ds gs before hval hW _ _
 exact labelSolves_contract H enc W base args ds gs before hval hW
theorem labelSolves_said:Rows.LabelSolvesSaid :=
 OpenClaim.holds_of_wide 4 Tryz.f4 rfl rfl rfl rfl rfl rfl rfl ⟨rfl,rfl,rfl,rfl,rfl⟩ rfl rfl rfl rfl rfl (by kernel_rfl) Tryz.func4 (by kernel_rfl)
  (of_decide_eq_true (by kernel_rfl)) (by unfold Func.isWrapper;first | (rw [if_pos (by decide +kernel)];kernel_rfl) | (rw [if_neg (by decide +kernel)];exact ⟨rfl,rfl⟩))
  (fun os started H enc _=>labelSolves_lifted os started H enc)
end
end Go.Proofs.YtaekdgikgbdnnaaGreat
