/-
  THE ROW OF LabelLeast.
-/
import Derived.Test.YtaekdgikgbdnnaaGreatRows
import Derived.Test.YtaekdgikgbdnnaaGreatKref18
import Derived.Test.YtaekdgikgbdnnaaGreatKsol1
import Derived.Test.YtaekdgikgbdnnaaGreatKlabel1
import Derived.Test.YtaekdgikgbdnnaaGreatKlib1
namespace Go.Proofs.YtaekdgikgbdnnaaGreat
section
open Go.RowKit Go.ChangeShapes Go.WideShapes Go.ChangeAt
theorem ownLabelLeast:ownKnob Tryz.prog.godebug=none:=by kernel_rfl
theorem laidOutLabelLeast:laidOutB Tryz.prog=true:=by kernel_rfl
theorem labelLeast_read:Tryz.f8.params.toList.all (fun t=>Tryz.prog.readableRec t&&decide (t<Tryz.prog.types.size))=true:=by kernel_rfl
set_option maxRecDepth 100000
theorem labelLeast_contract (H:Type) (enc:TypeId×Value->H) (W:World) (base:Nat) (args:Array Value) (ds gs:List (DataW H)) (before:List MemPlace)
  (hval:∀ (j:Nat) t v,Tryz.f8.params[j]?=some t->args[j]?=some v->Value.okWide Tryz.prog W .any base t v)
  (hW:DataW.Whole enc Tryz.prog Tryz.f8.params.toList Rows.labelLeastSpec.vars false W args.toList ds gs before) :
  Calls Tryz.prog 8 args W fun e W'=>∃ v,e=.returned v/\Rows.labelLeastSpec.post enc Tryz.prog Tryz.f8 false true false false W args v W':=by
 have hW':=hW
 obtain ⟨p,q,hA0,hV,rfl,hfz,hnd⟩:=hW
 have hA:DataW.TrodAll enc Tryz.prog W 0 (fun _=>true) true Tryz.f8.params.toList args.toList ds p:=hA0
 rw [Tryz.params8] at hA hval
 obtain ⟨v0,vs0,d0,ds0,p0,q0,hargs,rfl,rfl,h0,r0⟩:=trodAll_cons hA
 obtain ⟨v1,vs1,d1,ds1,p1,q1,rfl,rfl,rfl,h1,r1⟩:=trodAll_cons r0
 obtain ⟨v2,vs2,d2,ds2,p2,q2,rfl,rfl,rfl,h2,r2⟩:=trodAll_cons r1
 obtain ⟨v3,vs3,d3,ds3,p3,q3,rfl,rfl,rfl,h3,r3⟩:=trodAll_cons r2
 obtain ⟨v4,vs4,d4,ds4,p4,q4,rfl,rfl,rfl,h4,r4⟩:=trodAll_cons r3
 obtain ⟨rfl,rfl,rfl⟩:=trodAll_nil r4
 obtain rfl:args=#[v0,v1,v2,v3,v4]:=by cases args;simp_all
 obtain ⟨rfl,rfl⟩:=trodVars_none hV
 obtain ⟨vd0,vp0,ds0,ps0',rfl,hd0,hp0⟩:=open_case (hval 0 25 v0 rfl rfl) h0
 obtain ⟨z1,hl1,hz1⟩:=open_ints' (hval 1 26 v1 rfl rfl) h1
 obtain ⟨x2,rfl,rfl,rfl,wf2⟩:=open_int Tryz.underlying3 (hval 2 3 v2 rfl rfl) h2
 have hx2:-9223372036854775808<=x2/\x2<=9223372036854775807:=by simpa [Lit.wf,IntKind.min,IntKind.max,IntKind.bits,IntKind.signed] using wf2
 obtain ⟨sel3,ord3,br3,vw3,ws3,rfl,hw3,hz3⟩:=open_opt (hval 3 28 v3 rfl rfl) h3
 obtain ⟨x4,rfl,rfl,rfl,wf4⟩:=open_int Tryz.underlying3 (hval 4 3 v4 rfl rfl) h4
 have hx4:-9223372036854775808<=x4/\x4<=9223372036854775807:=by simpa [Lit.wf,IntKind.min,IntKind.max,IntKind.bits,IntKind.signed] using wf4
 exact (labelLeast_any _ _ _ _ ⟨sel3,ord3,br3,ws3⟩ _ _ _ x2 x4 W hd0 hp0 hl1 hw3).mono fun e W' ⟨he,hb⟩=>⟨_,he,law_post laidOutLabelLeast labelLeast_read rfl rfl Tryz.underlying4 hW' hb rfl⟩
theorem labelLeast_lifted (os:Os) (started:os.Started) (H:Type) (enc:TypeId×Value->H) :
  ReturnsInHanded {} Tryz.checked os 8 .any (Rows.labelLeastSpec.pre6 enc Tryz.prog Tryz.f8 Rows.labelLeastRow.domain false) (Rows.labelLeastSpec.post enc Tryz.prog Tryz.f8 false true false false):=by
 refine returnsInHanded_of_change (C:=Tryz.checked) ownLabelLeast started (by kernel_rfl) Tryz.func8
  (ChangeSpec.witness6 (enc:=enc) (C:=Tryz.checked) false ⟨#[],#[.agg #[.slice none 0 0,.slice none 0 0],.slice none 0 0,.int .i64 0,.agg #[.int .i64 0,.int .i64 0,.int .i64 0,.slice none 0 0],.int .i64 0],[]⟩ 8 (by kernel_rfl) (by kernel_rfl) (by kernel_rfl) (by kernel_rfl)) ?_
 intro W base args ds gs before hval hW _ _
 exact labelLeast_contract H enc W base args ds gs before hval hW
theorem labelLeast_said:Rows.LabelLeastSaid :=
 OpenClaim.holds_of_wide 8 Tryz.f8 rfl rfl rfl rfl rfl rfl rfl ⟨rfl,rfl,rfl,rfl,rfl⟩ rfl rfl rfl rfl rfl (by kernel_rfl) Tryz.func8 (by kernel_rfl)
  (of_decide_eq_true (by kernel_rfl)) (by unfold Func.isWrapper;first | (rw [if_pos (by decide +kernel)];kernel_rfl) | (rw [if_neg (by decide +kernel)];exact ⟨rfl,rfl⟩))
  (fun os started H enc _=>labelLeast_lifted os started H enc)
end
end Go.Proofs.YtaekdgikgbdnnaaGreat
