/-
  rel.Check, walked.
-/
import Derived.Test.YtaekdgikgbdnnaaGreatKrel2
import Derived.Test.YtaekdgikgbdnnaaGreatKlin1
namespace Go.Proofs.YtaekdgikgbdnnaaGreat
section
open Go.RowKit
def outB (n v:Int):Bool:=decide (v<0)||decide (n<=v)
set_option maxHeartbeats 400000
theorem out_any (n v:Int) (b:Nat) (w:World) (h:w.cell? ⟨b,0,none⟩=some (.int .i64 n)):Calls Tryz.prog 86 #[.int .i64 v,.pointer (some ⟨b,0,none⟩)] w fun e w'=>e=.returned (.bool (outB n v))/\w=w':=by
 by_cases h1:v<0
 ·go_enter Tryz.func86,Tryz.ntmps86
  go_wp2
  go_ret
  exact ⟨ret_bool (by simp [outB,h1]),rfl⟩
 ·go_enter Tryz.func86,Tryz.ntmps86
  go_wp2
  go_ret
  exact ⟨ret_bool (by simp [outB];omega),rfl⟩
theorem indexOut_any (n:Int) (bx:Nat) (v:Value) (zs:List Int) (w:World) (hc:w.cell? ⟨bx,0,none⟩=some (.int .i64 n)) (h:IsAt w v zs) (hl:zs.length<=4097) :
  Calls Tryz.prog 61 #[v,.func (.func 86) #[] #[.pointer (some ⟨bx,0,none⟩)]] w fun e w'=>e=.returned (.int .i64 (findI (outB n) zs))/\w=w':=by
 obtain ⟨ao,cap,rfl,_⟩:=h.shape
 have H:=hD h
 have HC:=hD hc
 clear h hc
 go_enter Tryz.func61,Tryz.ntmps61
 go_wp2
 go_loop [8] (fun i=>∃ k:Nat,k<=zs.length/\i=.int .i64 k/\(zs.take k).any (outB n)=false) (fun i=>zs.length - (intOf i).toNat)
 case atStart=>exact ⟨0,by omega,rfl,by simp⟩
 case round =>
  obtain ⟨k,hk,rfl,hnot⟩:=hrel
  have HN:=hD hnot
  clear hnot
  by_cases hlt:k<zs.length
  ·obtain ⟨b,off,cap',he,_,_,hc⟩:=IsAt.at H.out (by omega)
   simp only [Value.slice.injEq,true_and] at he
   obtain ⟨rfl,rfl⟩:=he
   have hcell:=hc k hlt
   clear hc
   obtain ⟨z,hz⟩:∃ z,z=zs[k]:=⟨_,rfl⟩
   rw [<- hz] at hcell
   cases ho:outB n z with
   | true =>
    have HF:=hD (findIdx_hit (outB n) zs k hlt HN.out (by rw [<- hz];exact ho))
    have CO:Hid (Calls Tryz.prog 86 #[.int .i64 z,.pointer (some ⟨bx,0,none⟩)] w fun e w'=>e=.returned (.bool true)/\w=w'):=by rw [<- ho];exact out_any n z bx w HC.out
    clear hz ho
    go_wp2_with (first | (go_at_call 86;((with_reducible refine CO.out.mono ?_);rintro e w' ⟨rfl,rfl⟩)))
    go_ret
    exact ⟨ret_int HF.out.symm,rfl⟩
   | false =>
    have HF:=hD (any_take_step (outB n) zs k hlt HN.out (by rw [<- hz];exact ho))
    have CO:Hid (Calls Tryz.prog 86 #[.int .i64 z,.pointer (some ⟨bx,0,none⟩)] w fun e w'=>e=.returned (.bool false)/\w=w'):=by rw [<- ho];exact out_any n z bx w HC.out
    clear hz ho
    go_wp2_with (first | (go_at_call 86;((with_reducible refine CO.out.mono ?_);rintro e w' ⟨rfl,rfl⟩)))
    go_round
    case rel=>exact ⟨k+1,by omega,by go_num,HF.out⟩
    case measure=>simp [intOf];omega
  ·have HF:Hid (findI (outB n) zs=-1):=findIdx_none (outB n) zs (by have:=HN.out;rwa [List.take_of_length_le (by omega)] at this)
   go_wp2
   go_ret
   exact ⟨ret_int HF.out.symm,rfl⟩
theorem containsOut_any (n:Int) (bx:Nat) (v:Value) (zs:List Int) (w:World) (hc:w.cell? ⟨bx,0,none⟩=some (.int .i64 n)) (h:IsAt w v zs) (hl:zs.length<=4097) :
  Calls Tryz.prog 41 #[v,.func (.func 86) #[] #[.pointer (some ⟨bx,0,none⟩)]] w fun e w'=>e=.returned (.bool (zs.any (outB n)))/\w=w':=by
 have CI:=hD (indexOut_any n bx v zs w hc h hl)
 clear h hc
 go_enter Tryz.func41,Tryz.ntmps41
 go_wp2_with (first | (go_at_call 61;((with_reducible refine CI.out.mono ?_);rintro e w' ⟨rfl,rfl⟩)))
 go_ret
 exact ⟨ret_bool (findI_nonneg _ _),rfl⟩
def relChk (kind rel c x y z:Int) (coef vars vs:List Int) (n:Int):Int :=
 if kind<1\/4<kind then 1 else if (kind=1\/kind=4)/\linChk coef vars rel c n≠0 then linChk coef vars rel c n
 else if kind=3/\64<vs.length then 160 else if (allL kind vars x y z vs).any (outB n)=true then 160 else 0
@[go_sem] theorem relAs1_1 (v:Value) (w:World):(Instr.typeAssert (.iface 124 v) 121 124 true).run Tryz.prog w=.ok (.tuple #[v,.bool true]) w:=by kernel_rfl
@[go_sem] theorem relAs1_4 (v:Value) (w:World):(Instr.typeAssert (.iface 124 v) 121 126 true).run Tryz.prog w=.ok (.tuple #[(.agg #[.int .i64 0,.slice none 0 0,.slice none 0 0,.int .i64 0,.int .i64 0]),.bool false]) w:=by kernel_rfl
@[go_sem] theorem relAs1_3 (v:Value) (w:World):(Instr.typeAssert (.iface 124 v) 121 128 true).run Tryz.prog w=.ok (.tuple #[(.agg #[.slice none 0 0]),.bool false]) w:=by kernel_rfl
@[go_sem] theorem relAs2_1 (v:Value) (w:World):(Instr.typeAssert (.iface 141 v) 121 124 true).run Tryz.prog w=.ok (.tuple #[(.agg #[.slice none 0 0,.slice none 0 0,.int .i64 0,.int .i64 0]),.bool false]) w:=by kernel_rfl
@[go_sem] theorem relAs2_4 (v:Value) (w:World):(Instr.typeAssert (.iface 141 v) 121 126 true).run Tryz.prog w=.ok (.tuple #[(.agg #[.int .i64 0,.slice none 0 0,.slice none 0 0,.int .i64 0,.int .i64 0]),.bool false]) w:=by kernel_rfl
@[go_sem] theorem relAs2_3 (v:Value) (w:World):(Instr.typeAssert (.iface 141 v) 121 128 true).run Tryz.prog w=.ok (.tuple #[(.agg #[.slice none 0 0]),.bool false]) w:=by kernel_rfl
@[go_sem] theorem relAs3_1 (v:Value) (w:World):(Instr.typeAssert (.iface 128 v) 121 124 true).run Tryz.prog w=.ok (.tuple #[(.agg #[.slice none 0 0,.slice none 0 0,.int .i64 0,.int .i64 0]),.bool false]) w:=by kernel_rfl
@[go_sem] theorem relAs3_4 (v:Value) (w:World):(Instr.typeAssert (.iface 128 v) 121 126 true).run Tryz.prog w=.ok (.tuple #[(.agg #[.int .i64 0,.slice none 0 0,.slice none 0 0,.int .i64 0,.int .i64 0]),.bool false]) w:=by kernel_rfl
@[go_sem] theorem relAs3_3 (v:Value) (w:World):(Instr.typeAssert (.iface 128 v) 121 128 true).run Tryz.prog w=.ok (.tuple #[v,.bool true]) w:=by kernel_rfl
@[go_sem] theorem relAs4_1 (v:Value) (w:World):(Instr.typeAssert (.iface 126 v) 121 124 true).run Tryz.prog w=.ok (.tuple #[(.agg #[.slice none 0 0,.slice none 0 0,.int .i64 0,.int .i64 0]),.bool false]) w:=by kernel_rfl
@[go_sem] theorem relAs4_4 (v:Value) (w:World):(Instr.typeAssert (.iface 126 v) 121 126 true).run Tryz.prog w=.ok (.tuple #[v,.bool true]) w:=by kernel_rfl
@[go_sem] theorem relAs4_3 (v:Value) (w:World):(Instr.typeAssert (.iface 126 v) 121 128 true).run Tryz.prog w=.ok (.tuple #[(.agg #[.slice none 0 0]),.bool false]) w:=by kernel_rfl
set_option maxRecDepth 100000
set_option maxHeartbeats 1600000
theorem check1_c (va vb vv:Value) (rel c x y z n:Int) (coef vars vs:List Int) (w:World) (h0:IsAt w va coef) (h1:IsAt w vb vars) (h2:IsAt w vv vs) (hl0:coef.length<=4096) (hl1:vars.length<=4095) (_hl2:vs.length<=4095) :
  Calls Tryz.prog 60 #[propV 1 va vb rel c x y z vv,.int .i64 n] w fun e w'=>e=.returned (.int .i64 (relChk 1 rel c x y z coef vars vs n))/\Below w.heap.size w w':=by
 obtain ⟨a0,c0,rfl,_⟩:=SlAt.shape h0
 obtain ⟨a1,c1,rfl,_⟩:=SlAt.shape h1
 obtain ⟨a2,c2,rfl,_⟩:=SlAt.shape h2
 have HZ:Hid (Below w.heap.size w ((w.alloc (.cells #[.int .i64 1,.slice a0 coef.length c0,.slice a1 vars.length c1,.int .i64 rel,.int .i64 c,.int .i64 x,.int .i64 y,.int .i64 z,.slice a2 vs.length c2] 67)).alloc (.cells #[.int .i64 n] 3))):=(bA _).alloc (by simp) _
 have HN:Hid (Box1 ((w.alloc (.cells #[.int .i64 1,.slice a0 coef.length c0,.slice a1 vars.length c1,.int .i64 rel,.int .i64 c,.int .i64 x,.int .i64 y,.int .i64 z,.slice a2 vs.length c2] 67)).alloc (.cells #[.int .i64 n] 3)) (w.heap.size+1) (.int .i64 n)):=by
  have h:=Box1.mk' (w.alloc (.cells #[.int .i64 1,.slice a0 coef.length c0,.slice a1 vars.length c1,.int .i64 rel,.int .i64 c,.int .i64 x,.int .i64 y,.int .i64 z,.slice a2 vs.length c2] 67)) (.int .i64 n) 3
  rw [show (w.alloc (.cells #[.int .i64 1,.slice a0 coef.length c0,.slice a1 vars.length c1,.int .i64 rel,.int .i64 c,.int .i64 x,.int .i64 y,.int .i64 z,.slice a2 vs.length c2] 67)).heap.size=w.heap.size+1 by simp] at h
  exact h
 have CO:Hid (Calls Tryz.prog 84 #[.agg #[.int .i64 1,.slice a0 coef.length c0,.slice a1 vars.length c1,.int .i64 rel,.int .i64 c,.int .i64 x,.int .i64 y,.int .i64 z,.slice a2 vs.length c2]] ((w.alloc (.cells #[.int .i64 1,.slice a0 coef.length c0,.slice a1 vars.length c1,.int .i64 rel,.int .i64 c,.int .i64 x,.int .i64 y,.int .i64 z,.slice a2 vs.length c2] 67)).alloc (.cells #[.int .i64 n] 3)) fun e w'=>e=.returned (.iface 124 (.agg #[.slice a0 coef.length c0,.slice a1 vars.length c1,.int .i64 rel,.int .i64 c]))/\Below ((w.alloc (.cells #[.int .i64 1,.slice a0 coef.length c0,.slice a1 vars.length c1,.int .i64 rel,.int .i64 c,.int .i64 x,.int .i64 y,.int .i64 z,.slice a2 vs.length c2] 67)).alloc (.cells #[.int .i64 n] 3)).heap.size ((w.alloc (.cells #[.int .i64 1,.slice a0 coef.length c0,.slice a1 vars.length c1,.int .i64 rel,.int .i64 c,.int .i64 x,.int .i64 y,.int .i64 z,.slice a2 vs.length c2] 67)).alloc (.cells #[.int .i64 n] 3)) w'):=of_c 1 a0 a1 a2 coef.length vars.length vs.length c0 c1 c2 rel c x y z _
 have CV:Hid (∀ W,Below w.heap.size w W->Calls Tryz.prog 156 #[.agg #[.slice a0 coef.length c0,.slice a1 vars.length c1,.int .i64 rel,.int .i64 c]] W fun e w'=>∃ ao cap,e=.returned (.slice ao vars.length cap)/\IsAt w' (.slice ao vars.length cap) vars/\Below W.heap.size W w'):=fun W h=>(varsLin_c a0 a1 coef.length vars.length c0 c1 rel c W).mono fun e w' ⟨he,hb⟩=>⟨a1,c1,he,h1.below (bT h hb),hb⟩
 have CC:Hid (∀ W v,Box1 W (w.heap.size+1) (.int .i64 n)->IsAt W v vars->Calls Tryz.prog 41 #[v,.func (.func 86) #[] #[.pointer (some ⟨w.heap.size+1,0,none⟩)]] W fun e w'=>e=.returned (.bool (vars.any (outB n)))/\W=w'):=fun W v hb h=>containsOut_any n _ v _ W hb.c0 h (by first | omega | (simp;done) | (simp;omega))
 have CL:Hid (∀ W,Below w.heap.size w W->Calls Tryz.prog 85 #[.agg #[.slice a0 coef.length c0,.slice a1 vars.length c1,.int .i64 rel,.int .i64 c],.int .i64 n] W fun e w'=>e=.returned (.int .i64 (linChk coef vars rel c n))/\Below W.heap.size W w'):=fun W h=>linCheck_any _ _ rel c n coef vars W (h0.below h) (h1.below h) hl0 (by omega)
 have HS:Hid (relChk 1 rel c x y z coef vars vs n=if linChk coef vars rel c n=0 then (if vars.any (outB n)=true then 160 else 0) else linChk coef vars rel c n):=by
  show _=_
  unfold relChk allL
  by_cases hq:linChk coef vars rel c n=0 <;> simp [hq]
 rw [HS.out]
 generalize linChk coef vars rel c n=L at *
 generalize vars.any (outB n)=bo at *
 clear h0 h1 h2 HS
 unfold propV
 by_cases hL:L=0
 ·subst hL
  cases bo
  ·go_enter Tryz.func60,Tryz.ntmps60
   go_wp2_with (first
  | (go_at_call 84;(with_reducible refine CO.out.mono ?_);rintro e W1 ⟨rfl,bb⟩;have B1:=hD (bT HZ.out bb);have N1:=hD (HN.out.past bb);have cn:=N1.out.c0;have ln:=N1.out.lt;clear bb)
  | (go_at_call 85;(with_reducible refine (CL.out _ (bL B1.out _)).mono ?_);rintro e W2 ⟨rfl,bb⟩;have B2:=hD ((bL B1.out _).trans (bb.mono (bL B1.out _).size));have N2:=hD ((N1.out.past (bA _)).past bb);clear bb)
  | (go_at_call 156;(with_reducible refine (CV.out _ B2.out).mono ?_);rintro e W3 ⟨a3,c3,rfl,i3,bb⟩;have B3:=hD (bT B2.out bb);have I3:=hD i3;have N3:=hD (N2.out.past bb);clear bb i3)
  | (go_at_call 41;(with_reducible refine (CC.out _ _ N3.out I3.out).mono ?_);rintro e w' ⟨rfl,rfl⟩))
   go_ret
   exact ⟨rfl,B3.out⟩
  ·go_enter Tryz.func60,Tryz.ntmps60
   go_wp2_with (first
  | (go_at_call 84;(with_reducible refine CO.out.mono ?_);rintro e W1 ⟨rfl,bb⟩;have B1:=hD (bT HZ.out bb);have N1:=hD (HN.out.past bb);have cn:=N1.out.c0;have ln:=N1.out.lt;clear bb)
  | (go_at_call 85;(with_reducible refine (CL.out _ (bL B1.out _)).mono ?_);rintro e W2 ⟨rfl,bb⟩;have B2:=hD ((bL B1.out _).trans (bb.mono (bL B1.out _).size));have N2:=hD ((N1.out.past (bA _)).past bb);clear bb)
  | (go_at_call 156;(with_reducible refine (CV.out _ B2.out).mono ?_);rintro e W3 ⟨a3,c3,rfl,i3,bb⟩;have B3:=hD (bT B2.out bb);have I3:=hD i3;have N3:=hD (N2.out.past bb);clear bb i3)
  | (go_at_call 41;(with_reducible refine (CC.out _ _ N3.out I3.out).mono ?_);rintro e w' ⟨rfl,rfl⟩))
   go_ret
   exact ⟨rfl,B3.out⟩
 ·have hL2:(L==0)=false:=by simpa using hL
  rw [if_neg hL]
  clear hL
  go_enter Tryz.func60,Tryz.ntmps60
  go_wp2_with (first
  | (go_at_call 84;(with_reducible refine CO.out.mono ?_);rintro e W1 ⟨rfl,bb⟩;have B1:=hD (bT HZ.out bb);have N1:=hD (HN.out.past bb);have cn:=N1.out.c0;have ln:=N1.out.lt;clear bb)
  | (go_at_call 85;(with_reducible refine (CL.out _ (bL B1.out _)).mono ?_);rintro e W2 ⟨rfl,bb⟩;have B2:=hD ((bL B1.out _).trans (bb.mono (bL B1.out _).size));have N2:=hD ((N1.out.past (bA _)).past bb);clear bb)
  | (go_at_call 156;(with_reducible refine (CV.out _ B2.out).mono ?_);rintro e W3 ⟨a3,c3,rfl,i3,bb⟩;have B3:=hD (bT B2.out bb);have I3:=hD i3;have N3:=hD (N2.out.past bb);clear bb i3)
  | (go_at_call 41;(with_reducible refine (CC.out _ _ N3.out I3.out).mono ?_);rintro e w' ⟨rfl,rfl⟩))
  go_ret
  exact ⟨rfl,B2.out⟩
theorem check2_c (va vb vv:Value) (rel c x y z n:Int) (coef vars vs:List Int) (w:World) (h0:IsAt w va coef) (h1:IsAt w vb vars) (h2:IsAt w vv vs) (_hl0:coef.length<=4096) (_hl1:vars.length<=4095) (_hl2:vs.length<=4095) :
  Calls Tryz.prog 60 #[propV 2 va vb rel c x y z vv,.int .i64 n] w fun e w'=>e=.returned (.int .i64 (relChk 2 rel c x y z coef vars vs n))/\Below w.heap.size w w':=by
 obtain ⟨a0,c0,rfl,_⟩:=SlAt.shape h0
 obtain ⟨a1,c1,rfl,_⟩:=SlAt.shape h1
 obtain ⟨a2,c2,rfl,_⟩:=SlAt.shape h2
 have HZ:Hid (Below w.heap.size w ((w.alloc (.cells #[.int .i64 2,.slice a0 coef.length c0,.slice a1 vars.length c1,.int .i64 rel,.int .i64 c,.int .i64 x,.int .i64 y,.int .i64 z,.slice a2 vs.length c2] 67)).alloc (.cells #[.int .i64 n] 3))):=(bA _).alloc (by simp) _
 have HN:Hid (Box1 ((w.alloc (.cells #[.int .i64 2,.slice a0 coef.length c0,.slice a1 vars.length c1,.int .i64 rel,.int .i64 c,.int .i64 x,.int .i64 y,.int .i64 z,.slice a2 vs.length c2] 67)).alloc (.cells #[.int .i64 n] 3)) (w.heap.size+1) (.int .i64 n)):=by
  have h:=Box1.mk' (w.alloc (.cells #[.int .i64 2,.slice a0 coef.length c0,.slice a1 vars.length c1,.int .i64 rel,.int .i64 c,.int .i64 x,.int .i64 y,.int .i64 z,.slice a2 vs.length c2] 67)) (.int .i64 n) 3
  rw [show (w.alloc (.cells #[.int .i64 2,.slice a0 coef.length c0,.slice a1 vars.length c1,.int .i64 rel,.int .i64 c,.int .i64 x,.int .i64 y,.int .i64 z,.slice a2 vs.length c2] 67)).heap.size=w.heap.size+1 by simp] at h
  exact h
 have CO:Hid (Calls Tryz.prog 84 #[.agg #[.int .i64 2,.slice a0 coef.length c0,.slice a1 vars.length c1,.int .i64 rel,.int .i64 c,.int .i64 x,.int .i64 y,.int .i64 z,.slice a2 vs.length c2]] ((w.alloc (.cells #[.int .i64 2,.slice a0 coef.length c0,.slice a1 vars.length c1,.int .i64 rel,.int .i64 c,.int .i64 x,.int .i64 y,.int .i64 z,.slice a2 vs.length c2] 67)).alloc (.cells #[.int .i64 n] 3)) fun e w'=>e=.returned (.iface 141 (.agg #[.int .i64 x,.int .i64 y,.int .i64 z]))/\Below ((w.alloc (.cells #[.int .i64 2,.slice a0 coef.length c0,.slice a1 vars.length c1,.int .i64 rel,.int .i64 c,.int .i64 x,.int .i64 y,.int .i64 z,.slice a2 vs.length c2] 67)).alloc (.cells #[.int .i64 n] 3)).heap.size ((w.alloc (.cells #[.int .i64 2,.slice a0 coef.length c0,.slice a1 vars.length c1,.int .i64 rel,.int .i64 c,.int .i64 x,.int .i64 y,.int .i64 z,.slice a2 vs.length c2] 67)).alloc (.cells #[.int .i64 n] 3)) w'):=of_c 2 a0 a1 a2 coef.length vars.length vs.length c0 c1 c2 rel c x y z _
 have CV:Hid (∀ W,Below w.heap.size w W->Calls Tryz.prog 183 #[.agg #[.int .i64 x,.int .i64 y,.int .i64 z]] W fun e w'=>∃ ao cap,e=.returned (.slice ao [x,y,z].length cap)/\IsAt w' (.slice ao [x,y,z].length cap) [x,y,z]/\Below W.heap.size W w'):=fun W h=>varsProd_c x y z W
 have CC:Hid (∀ W v,Box1 W (w.heap.size+1) (.int .i64 n)->IsAt W v [x,y,z]->Calls Tryz.prog 41 #[v,.func (.func 86) #[] #[.pointer (some ⟨w.heap.size+1,0,none⟩)]] W fun e w'=>e=.returned (.bool ([x,y,z].any (outB n)))/\W=w'):=fun W v hb h=>containsOut_any n _ v _ W hb.c0 h (by first | omega | (simp;done) | (simp;omega))
 have HS:Hid (relChk 2 rel c x y z coef vars vs n=(if [x,y,z].any (outB n)=true then 160 else 0)):=by
  show _=_
  unfold relChk allL
  simp
 rw [HS.out]
 obtain ⟨A,hA⟩:∃ A,A=[x,y,z]:=⟨_,rfl⟩
 rw [<- hA] at CV CC |-
 clear hA
 generalize A.any (outB n)=bo at *
 clear h0 h1 h2 HS
 unfold propV
 cases bo
 ·go_enter Tryz.func60,Tryz.ntmps60
  go_wp2_with (first
  | (go_at_call 84;(with_reducible refine CO.out.mono ?_);rintro e W1 ⟨rfl,bb⟩;have B1:=hD (bT HZ.out bb);have N1:=hD (HN.out.past bb);have cn:=N1.out.c0;have ln:=N1.out.lt;clear bb)
  | (go_at_call 85;(with_reducible refine (CL.out _ (bL B1.out _)).mono ?_);rintro e W2 ⟨rfl,bb⟩;have B2:=hD ((bL B1.out _).trans (bb.mono (bL B1.out _).size));have N2:=hD ((N1.out.past (bA _)).past bb);clear bb)
  | (go_at_call 183;(with_reducible refine (CV.out _ B1.out).mono ?_);rintro e W3 ⟨a3,c3,rfl,i3,bb⟩;have B3:=hD (bT B1.out bb);have I3:=hD i3;have N3:=hD (N1.out.past bb);clear bb i3)
  | (go_at_call 41;(with_reducible refine (CC.out _ _ N3.out I3.out).mono ?_);rintro e w' ⟨rfl,rfl⟩))
  go_ret
  exact ⟨rfl,B3.out⟩
 ·go_enter Tryz.func60,Tryz.ntmps60
  go_wp2_with (first
  | (go_at_call 84;(with_reducible refine CO.out.mono ?_);rintro e W1 ⟨rfl,bb⟩;have B1:=hD (bT HZ.out bb);have N1:=hD (HN.out.past bb);have cn:=N1.out.c0;have ln:=N1.out.lt;clear bb)
  | (go_at_call 85;(with_reducible refine (CL.out _ (bL B1.out _)).mono ?_);rintro e W2 ⟨rfl,bb⟩;have B2:=hD ((bL B1.out _).trans (bb.mono (bL B1.out _).size));have N2:=hD ((N1.out.past (bA _)).past bb);clear bb)
  | (go_at_call 183;(with_reducible refine (CV.out _ B1.out).mono ?_);rintro e W3 ⟨a3,c3,rfl,i3,bb⟩;have B3:=hD (bT B1.out bb);have I3:=hD i3;have N3:=hD (N1.out.past bb);clear bb i3)
  | (go_at_call 41;(with_reducible refine (CC.out _ _ N3.out I3.out).mono ?_);rintro e w' ⟨rfl,rfl⟩))
  go_ret
  exact ⟨rfl,B3.out⟩
theorem check3_c (va vb vv:Value) (rel c x y z n:Int) (coef vars vs:List Int) (w:World) (h0:IsAt w va coef) (h1:IsAt w vb vars) (h2:IsAt w vv vs) (_hl0:coef.length<=4096) (_hl1:vars.length<=4095) (hl2:vs.length<=4095) :
  Calls Tryz.prog 60 #[propV 3 va vb rel c x y z vv,.int .i64 n] w fun e w'=>e=.returned (.int .i64 (relChk 3 rel c x y z coef vars vs n))/\Below w.heap.size w w':=by
 obtain ⟨a0,c0,rfl,_⟩:=SlAt.shape h0
 obtain ⟨a1,c1,rfl,_⟩:=SlAt.shape h1
 obtain ⟨a2,c2,rfl,_⟩:=SlAt.shape h2
 have HZ:Hid (Below w.heap.size w ((w.alloc (.cells #[.int .i64 3,.slice a0 coef.length c0,.slice a1 vars.length c1,.int .i64 rel,.int .i64 c,.int .i64 x,.int .i64 y,.int .i64 z,.slice a2 vs.length c2] 67)).alloc (.cells #[.int .i64 n] 3))):=(bA _).alloc (by simp) _
 have HN:Hid (Box1 ((w.alloc (.cells #[.int .i64 3,.slice a0 coef.length c0,.slice a1 vars.length c1,.int .i64 rel,.int .i64 c,.int .i64 x,.int .i64 y,.int .i64 z,.slice a2 vs.length c2] 67)).alloc (.cells #[.int .i64 n] 3)) (w.heap.size+1) (.int .i64 n)):=by
  have h:=Box1.mk' (w.alloc (.cells #[.int .i64 3,.slice a0 coef.length c0,.slice a1 vars.length c1,.int .i64 rel,.int .i64 c,.int .i64 x,.int .i64 y,.int .i64 z,.slice a2 vs.length c2] 67)) (.int .i64 n) 3
  rw [show (w.alloc (.cells #[.int .i64 3,.slice a0 coef.length c0,.slice a1 vars.length c1,.int .i64 rel,.int .i64 c,.int .i64 x,.int .i64 y,.int .i64 z,.slice a2 vs.length c2] 67)).heap.size=w.heap.size+1 by simp] at h
  exact h
 have CO:Hid (Calls Tryz.prog 84 #[.agg #[.int .i64 3,.slice a0 coef.length c0,.slice a1 vars.length c1,.int .i64 rel,.int .i64 c,.int .i64 x,.int .i64 y,.int .i64 z,.slice a2 vs.length c2]] ((w.alloc (.cells #[.int .i64 3,.slice a0 coef.length c0,.slice a1 vars.length c1,.int .i64 rel,.int .i64 c,.int .i64 x,.int .i64 y,.int .i64 z,.slice a2 vs.length c2] 67)).alloc (.cells #[.int .i64 n] 3)) fun e w'=>e=.returned (.iface 128 (.agg #[.slice a2 vs.length c2]))/\Below ((w.alloc (.cells #[.int .i64 3,.slice a0 coef.length c0,.slice a1 vars.length c1,.int .i64 rel,.int .i64 c,.int .i64 x,.int .i64 y,.int .i64 z,.slice a2 vs.length c2] 67)).alloc (.cells #[.int .i64 n] 3)).heap.size ((w.alloc (.cells #[.int .i64 3,.slice a0 coef.length c0,.slice a1 vars.length c1,.int .i64 rel,.int .i64 c,.int .i64 x,.int .i64 y,.int .i64 z,.slice a2 vs.length c2] 67)).alloc (.cells #[.int .i64 n] 3)) w'):=of_c 3 a0 a1 a2 coef.length vars.length vs.length c0 c1 c2 rel c x y z _
 have CV:Hid (∀ W,Below w.heap.size w W->Calls Tryz.prog 180 #[.agg #[.slice a2 vs.length c2]] W fun e w'=>∃ ao cap,e=.returned (.slice ao vs.length cap)/\IsAt w' (.slice ao vs.length cap) vs/\Below W.heap.size W w'):=fun W h=>(varsDiff_c a2 vs.length c2 W).mono fun e w' ⟨he,hb⟩=>⟨a2,c2,he,h2.below (bT h hb),hb⟩
 have CC:Hid (∀ W v,Box1 W (w.heap.size+1) (.int .i64 n)->IsAt W v vs->Calls Tryz.prog 41 #[v,.func (.func 86) #[] #[.pointer (some ⟨w.heap.size+1,0,none⟩)]] W fun e w'=>e=.returned (.bool (vs.any (outB n)))/\W=w'):=fun W v hb h=>containsOut_any n _ v _ W hb.c0 h (by first | omega | (simp;done) | (simp;omega))
 have HS:Hid (relChk 3 rel c x y z coef vars vs n=if 64<vs.length then 160 else (if vs.any (outB n)=true then 160 else 0)):=by
  show _=_
  unfold relChk allL
  simp
 rw [HS.out]
 generalize vs.any (outB n)=bo at *
 clear h0 h1 h2 HS
 unfold propV
 by_cases hq:64<vs.length
 ·rw [if_pos hq]
  go_enter Tryz.func60,Tryz.ntmps60
  go_wp2_with (first
  | (go_at_call 84;(with_reducible refine CO.out.mono ?_);rintro e W1 ⟨rfl,bb⟩;have B1:=hD (bT HZ.out bb);have N1:=hD (HN.out.past bb);have cn:=N1.out.c0;have ln:=N1.out.lt;clear bb)
  | (go_at_call 85;(with_reducible refine (CL.out _ (bL B1.out _)).mono ?_);rintro e W2 ⟨rfl,bb⟩;have B2:=hD ((bL B1.out _).trans (bb.mono (bL B1.out _).size));have N2:=hD ((N1.out.past (bA _)).past bb);clear bb)
  | (go_at_call 180;(with_reducible refine (CV.out _ (bL B1.out _)).mono ?_);rintro e W3 ⟨a3,c3,rfl,i3,bb⟩;have B3:=hD ((bL B1.out _).trans (bb.mono (bL B1.out _).size));have I3:=hD i3;have N3:=hD ((N1.out.past (bA _)).past bb);clear bb i3)
  | (go_at_call 41;(with_reducible refine (CC.out _ _ N3.out I3.out).mono ?_);rintro e w' ⟨rfl,rfl⟩))
  go_ret
  exact ⟨rfl,bL B1.out _⟩
 ·rw [if_neg hq]
  cases bo
  ·go_enter Tryz.func60,Tryz.ntmps60
   go_wp2_with (first
  | (go_at_call 84;(with_reducible refine CO.out.mono ?_);rintro e W1 ⟨rfl,bb⟩;have B1:=hD (bT HZ.out bb);have N1:=hD (HN.out.past bb);have cn:=N1.out.c0;have ln:=N1.out.lt;clear bb)
  | (go_at_call 85;(with_reducible refine (CL.out _ (bL B1.out _)).mono ?_);rintro e W2 ⟨rfl,bb⟩;have B2:=hD ((bL B1.out _).trans (bb.mono (bL B1.out _).size));have N2:=hD ((N1.out.past (bA _)).past bb);clear bb)
  | (go_at_call 180;(with_reducible refine (CV.out _ (bL B1.out _)).mono ?_);rintro e W3 ⟨a3,c3,rfl,i3,bb⟩;have B3:=hD ((bL B1.out _).trans (bb.mono (bL B1.out _).size));have I3:=hD i3;have N3:=hD ((N1.out.past (bA _)).past bb);clear bb i3)
  | (go_at_call 41;(with_reducible refine (CC.out _ _ N3.out I3.out).mono ?_);rintro e w' ⟨rfl,rfl⟩))
   go_ret
   exact ⟨rfl,B3.out⟩
  ·go_enter Tryz.func60,Tryz.ntmps60
   go_wp2_with (first
  | (go_at_call 84;(with_reducible refine CO.out.mono ?_);rintro e W1 ⟨rfl,bb⟩;have B1:=hD (bT HZ.out bb);have N1:=hD (HN.out.past bb);have cn:=N1.out.c0;have ln:=N1.out.lt;clear bb)
  | (go_at_call 85;(with_reducible refine (CL.out _ (bL B1.out _)).mono ?_);rintro e W2 ⟨rfl,bb⟩;have B2:=hD ((bL B1.out _).trans (bb.mono (bL B1.out _).size));have N2:=hD ((N1.out.past (bA _)).past bb);clear bb)
  | (go_at_call 180;(with_reducible refine (CV.out _ (bL B1.out _)).mono ?_);rintro e W3 ⟨a3,c3,rfl,i3,bb⟩;have B3:=hD ((bL B1.out _).trans (bb.mono (bL B1.out _).size));have I3:=hD i3;have N3:=hD ((N1.out.past (bA _)).past bb);clear bb i3)
  | (go_at_call 41;(with_reducible refine (CC.out _ _ N3.out I3.out).mono ?_);rintro e w' ⟨rfl,rfl⟩))
   go_ret
   exact ⟨rfl,B3.out⟩
theorem check4_c (va vb vv:Value) (rel c x y z n:Int) (coef vars vs:List Int) (w:World) (h0:IsAt w va coef) (h1:IsAt w vb vars) (h2:IsAt w vv vs) (hl0:coef.length<=4096) (hl1:vars.length<=4095) (_hl2:vs.length<=4095) :
  Calls Tryz.prog 60 #[propV 4 va vb rel c x y z vv,.int .i64 n] w fun e w'=>e=.returned (.int .i64 (relChk 4 rel c x y z coef vars vs n))/\Below w.heap.size w w':=by
 obtain ⟨a0,c0,rfl,_⟩:=SlAt.shape h0
 obtain ⟨a1,c1,rfl,_⟩:=SlAt.shape h1
 obtain ⟨a2,c2,rfl,_⟩:=SlAt.shape h2
 have HZ:Hid (Below w.heap.size w ((w.alloc (.cells #[.int .i64 4,.slice a0 coef.length c0,.slice a1 vars.length c1,.int .i64 rel,.int .i64 c,.int .i64 x,.int .i64 y,.int .i64 z,.slice a2 vs.length c2] 67)).alloc (.cells #[.int .i64 n] 3))):=(bA _).alloc (by simp) _
 have HN:Hid (Box1 ((w.alloc (.cells #[.int .i64 4,.slice a0 coef.length c0,.slice a1 vars.length c1,.int .i64 rel,.int .i64 c,.int .i64 x,.int .i64 y,.int .i64 z,.slice a2 vs.length c2] 67)).alloc (.cells #[.int .i64 n] 3)) (w.heap.size+1) (.int .i64 n)):=by
  have h:=Box1.mk' (w.alloc (.cells #[.int .i64 4,.slice a0 coef.length c0,.slice a1 vars.length c1,.int .i64 rel,.int .i64 c,.int .i64 x,.int .i64 y,.int .i64 z,.slice a2 vs.length c2] 67)) (.int .i64 n) 3
  rw [show (w.alloc (.cells #[.int .i64 4,.slice a0 coef.length c0,.slice a1 vars.length c1,.int .i64 rel,.int .i64 c,.int .i64 x,.int .i64 y,.int .i64 z,.slice a2 vs.length c2] 67)).heap.size=w.heap.size+1 by simp] at h
  exact h
 have CO:Hid (Calls Tryz.prog 84 #[.agg #[.int .i64 4,.slice a0 coef.length c0,.slice a1 vars.length c1,.int .i64 rel,.int .i64 c,.int .i64 x,.int .i64 y,.int .i64 z,.slice a2 vs.length c2]] ((w.alloc (.cells #[.int .i64 4,.slice a0 coef.length c0,.slice a1 vars.length c1,.int .i64 rel,.int .i64 c,.int .i64 x,.int .i64 y,.int .i64 z,.slice a2 vs.length c2] 67)).alloc (.cells #[.int .i64 n] 3)) fun e w'=>e=.returned (.iface 126 (.agg #[.int .i64 x,.slice a0 coef.length c0,.slice a1 vars.length c1,.int .i64 rel,.int .i64 c]))/\Below ((w.alloc (.cells #[.int .i64 4,.slice a0 coef.length c0,.slice a1 vars.length c1,.int .i64 rel,.int .i64 c,.int .i64 x,.int .i64 y,.int .i64 z,.slice a2 vs.length c2] 67)).alloc (.cells #[.int .i64 n] 3)).heap.size ((w.alloc (.cells #[.int .i64 4,.slice a0 coef.length c0,.slice a1 vars.length c1,.int .i64 rel,.int .i64 c,.int .i64 x,.int .i64 y,.int .i64 z,.slice a2 vs.length c2] 67)).alloc (.cells #[.int .i64 n] 3)) w'):=of_c 4 a0 a1 a2 coef.length vars.length vs.length c0 c1 c2 rel c x y z _
 have CV:Hid (∀ W,Below w.heap.size w W->Calls Tryz.prog 171 #[.agg #[.int .i64 x,.slice a0 coef.length c0,.slice a1 vars.length c1,.int .i64 rel,.int .i64 c]] W fun e w'=>∃ ao cap,e=.returned (.slice ao (x::vars).length cap)/\IsAt w' (.slice ao (x::vars).length cap) (x::vars)/\Below W.heap.size W w'):=fun W h=>varsReif_c x rel c a0 coef.length c0 _ vars W (h1.below h) (by omega)
 have CC:Hid (∀ W v,Box1 W (w.heap.size+1) (.int .i64 n)->IsAt W v (x::vars)->Calls Tryz.prog 41 #[v,.func (.func 86) #[] #[.pointer (some ⟨w.heap.size+1,0,none⟩)]] W fun e w'=>e=.returned (.bool ((x::vars).any (outB n)))/\W=w'):=fun W v hb h=>containsOut_any n _ v _ W hb.c0 h (by first | omega | (simp;done) | (simp;omega))
 have CL:Hid (∀ W,Below w.heap.size w W->Calls Tryz.prog 85 #[.agg #[.slice a0 coef.length c0,.slice a1 vars.length c1,.int .i64 rel,.int .i64 c],.int .i64 n] W fun e w'=>e=.returned (.int .i64 (linChk coef vars rel c n))/\Below W.heap.size W w'):=fun W h=>linCheck_any _ _ rel c n coef vars W (h0.below h) (h1.below h) hl0 (by omega)
 have HS:Hid (relChk 4 rel c x y z coef vars vs n=if linChk coef vars rel c n=0 then (if (x::vars).any (outB n)=true then 160 else 0) else linChk coef vars rel c n):=by
  show _=_
  unfold relChk allL
  by_cases hq:linChk coef vars rel c n=0 <;> simp [hq]
 rw [HS.out]
 generalize linChk coef vars rel c n=L at *
 obtain ⟨A,hA⟩:∃ A,A=(x::vars):=⟨_,rfl⟩
 rw [<- hA] at CV CC |-
 clear hA
 generalize A.any (outB n)=bo at *
 clear h0 h1 h2 HS
 unfold propV
 by_cases hL:L=0
 ·subst hL
  cases bo
  ·go_enter Tryz.func60,Tryz.ntmps60
   go_wp2_with (first
  | (go_at_call 84;(with_reducible refine CO.out.mono ?_);rintro e W1 ⟨rfl,bb⟩;have B1:=hD (bT HZ.out bb);have N1:=hD (HN.out.past bb);have cn:=N1.out.c0;have ln:=N1.out.lt;clear bb)
  | (go_at_call 85;(with_reducible refine (CL.out _ (bL B1.out _)).mono ?_);rintro e W2 ⟨rfl,bb⟩;have B2:=hD ((bL B1.out _).trans (bb.mono (bL B1.out _).size));have N2:=hD ((N1.out.past (bA _)).past bb);clear bb)
  | (go_at_call 171;(with_reducible refine (CV.out _ B2.out).mono ?_);rintro e W3 ⟨a3,c3,rfl,i3,bb⟩;have B3:=hD (bT B2.out bb);have I3:=hD i3;have N3:=hD (N2.out.past bb);clear bb i3)
  | (go_at_call 41;(with_reducible refine (CC.out _ _ N3.out I3.out).mono ?_);rintro e w' ⟨rfl,rfl⟩))
   go_ret
   exact ⟨rfl,B3.out⟩
  ·go_enter Tryz.func60,Tryz.ntmps60
   go_wp2_with (first
  | (go_at_call 84;(with_reducible refine CO.out.mono ?_);rintro e W1 ⟨rfl,bb⟩;have B1:=hD (bT HZ.out bb);have N1:=hD (HN.out.past bb);have cn:=N1.out.c0;have ln:=N1.out.lt;clear bb)
  | (go_at_call 85;(with_reducible refine (CL.out _ (bL B1.out _)).mono ?_);rintro e W2 ⟨rfl,bb⟩;have B2:=hD ((bL B1.out _).trans (bb.mono (bL B1.out _).size));have N2:=hD ((N1.out.past (bA _)).past bb);clear bb)
  | (go_at_call 171;(with_reducible refine (CV.out _ B2.out).mono ?_);rintro e W3 ⟨a3,c3,rfl,i3,bb⟩;have B3:=hD (bT B2.out bb);have I3:=hD i3;have N3:=hD (N2.out.past bb);clear bb i3)
  | (go_at_call 41;(with_reducible refine (CC.out _ _ N3.out I3.out).mono ?_);rintro e w' ⟨rfl,rfl⟩))
   go_ret
   exact ⟨rfl,B3.out⟩
 ·have hL2:(L==0)=false:=by simpa using hL
  rw [if_neg hL]
  clear hL
  go_enter Tryz.func60,Tryz.ntmps60
  go_wp2_with (first
  | (go_at_call 84;(with_reducible refine CO.out.mono ?_);rintro e W1 ⟨rfl,bb⟩;have B1:=hD (bT HZ.out bb);have N1:=hD (HN.out.past bb);have cn:=N1.out.c0;have ln:=N1.out.lt;clear bb)
  | (go_at_call 85;(with_reducible refine (CL.out _ (bL B1.out _)).mono ?_);rintro e W2 ⟨rfl,bb⟩;have B2:=hD ((bL B1.out _).trans (bb.mono (bL B1.out _).size));have N2:=hD ((N1.out.past (bA _)).past bb);clear bb)
  | (go_at_call 171;(with_reducible refine (CV.out _ B2.out).mono ?_);rintro e W3 ⟨a3,c3,rfl,i3,bb⟩;have B3:=hD (bT B2.out bb);have I3:=hD i3;have N3:=hD (N2.out.past bb);clear bb i3)
  | (go_at_call 41;(with_reducible refine (CC.out _ _ N3.out I3.out).mono ?_);rintro e w' ⟨rfl,rfl⟩))
  go_ret
  exact ⟨rfl,B2.out⟩
theorem check0_c (kind:Int) (va vb vv:Value) (rel c x y z n:Int) (coef vars vs:List Int) (w:World) (h0:IsAt w va coef) (h1:IsAt w vb vars) (h2:IsAt w vv vs) (_hl0:coef.length<=4096) (_hl1:vars.length<=4095) (_hl2:vs.length<=4095) (k1:kind≠1) (k2:kind≠2) (k3:kind≠3) (k4:kind≠4) :
  Calls Tryz.prog 60 #[propV kind va vb rel c x y z vv,.int .i64 n] w fun e w'=>e=.returned (.int .i64 1)/\Below w.heap.size w w':=by
 obtain ⟨a0,c0,rfl,_⟩:=SlAt.shape h0
 obtain ⟨a1,c1,rfl,_⟩:=SlAt.shape h1
 obtain ⟨a2,c2,rfl,_⟩:=SlAt.shape h2
 have HZ:Hid (Below w.heap.size w ((w.alloc (.cells #[.int .i64 kind,.slice a0 coef.length c0,.slice a1 vars.length c1,.int .i64 rel,.int .i64 c,.int .i64 x,.int .i64 y,.int .i64 z,.slice a2 vs.length c2] 67)).alloc (.cells #[.int .i64 n] 3))):=(bA _).alloc (by simp) _
 have CO:=hD (of_c kind a0 a1 a2 coef.length vars.length vs.length c0 c1 c2 rel c x y z ((w.alloc (.cells #[.int .i64 kind,.slice a0 coef.length c0,.slice a1 vars.length c1,.int .i64 rel,.int .i64 c,.int .i64 x,.int .i64 y,.int .i64 z,.slice a2 vs.length c2] 67)).alloc (.cells #[.int .i64 n] 3)))
 unfold ofV at CO
 rw [if_neg k1,if_neg k2,if_neg k3,if_neg k4] at CO
 unfold propV at *
 clear k1 k2 k3 k4
 go_enter Tryz.func60,Tryz.ntmps60
 go_wp2_with (go_at_call 84;(with_reducible refine CO.out.mono ?_);rintro e W1 ⟨rfl,bb⟩;have B1:=hD (bT HZ.out bb);clear bb)
 go_ret
 exact ⟨rfl,B1.out⟩
theorem check_c (kind:Int) (va vb vv:Value) (rel c x y z n:Int) (coef vars vs:List Int) (w:World) (h0:IsAt w va coef) (h1:IsAt w vb vars) (h2:IsAt w vv vs) (hl0:coef.length<=4096) (hl1:vars.length<=4095) (hl2:vs.length<=4095) :
  Calls Tryz.prog 60 #[propV kind va vb rel c x y z vv,.int .i64 n] w fun e w'=>e=.returned (.int .i64 (relChk kind rel c x y z coef vars vs n))/\Below w.heap.size w w':=by
 by_cases k1:kind=1
 ·subst k1;exact check1_c va vb vv rel c x y z n coef vars vs w h0 h1 h2 hl0 hl1 hl2
 by_cases k2:kind=2
 ·subst k2;exact check2_c va vb vv rel c x y z n coef vars vs w h0 h1 h2 hl0 hl1 hl2
 by_cases k3:kind=3
 ·subst k3;exact check3_c va vb vv rel c x y z n coef vars vs w h0 h1 h2 hl0 hl1 hl2
 by_cases k4:kind=4
 ·subst k4;exact check4_c va vb vv rel c x y z n coef vars vs w h0 h1 h2 hl0 hl1 hl2
 have e:relChk kind rel c x y z coef vars vs n=1:=by unfold relChk;rw [if_pos (by omega)]
 rw [e]
 exact check0_c kind va vb vv rel c x y z n coef vars vs w h0 h1 h2 hl0 hl1 hl2 k1 k2 k3 k4
end
end Go.Proofs.YtaekdgikgbdnnaaGreat
