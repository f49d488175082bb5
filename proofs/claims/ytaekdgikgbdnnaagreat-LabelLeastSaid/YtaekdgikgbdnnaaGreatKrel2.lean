/-
  rel.Vars, walked.
-/
import Derived.Test.YtaekdgikgbdnnaaGreatKrel1
namespace Go.Proofs.YtaekdgikgbdnnaaGreat
section
open Go.RowKit
set_option maxRecDepth 100000
set_option maxHeartbeats 800000
theorem varsReif_c (x rel c:Int) (a0:Option Addr) (n0 c0:Nat) (vb:Value) (vars:List Int) (w:World) (h1:IsAt w vb vars) (hl1:vars.length<=4096) :
  Calls Tryz.prog 171 #[.agg #[.int .i64 x,.slice a0 n0 c0,vb,.int .i64 rel,.int .i64 c]] w fun e w'=>∃ ao cap,e=.returned (.slice ao (x::vars).length cap)/\IsAt w' (.slice ao (x::vars).length cap) (x::vars)/\Below w.heap.size w w':=by
 obtain ⟨i0,hi,hz0,hz1,hz2⟩:=info_parts Tryz.infoIntR
 obtain ⟨a1,c1,rfl,_⟩:=SlAt.shape h1
 have H1:=hD h1
 have HB:Hid (∀ o o2,Below w.heap.size w ((w.alloc o).alloc o2)):=fun o o2=>((Below.refl _ _).alloc (rN _) o).alloc (by simp) o2
 have HM:Hid (∀ o:Obj,((w.alloc o).alloc (.cells #[.int .i64 x] 3)).ownsRow w.heap.size 3 1 (.slice (some ⟨w.heap.size+1,0,none⟩) 1 1) 1 [.int .i64 x]):=fun o=>by
  have h:=World.ownsRow_lit (base:=w.heap.size) (w.alloc o) #[.int .i64 x] 1 (e:=3) (size:=1) (by simp) (by simp [maxLen]) rfl
  rw [show (w.alloc o).heap.size=w.heap.size+1 by simp] at h
  exact h
 clear h1
 go_enter Tryz.func171,Tryz.ntmps171
 go_wp2_with (at_builtin;refine wpList_append_sl rfl (.tmp 5) (.tmp 8) 26 rfl w.heap.size 3 i0 (.int .i64 0) 1 8 Tryz.underlying26 hi hz0 hz1 hz2 rfl (by decide) _ 1 _ rfl (HM.out _) _ vars.length _ rfl (H1.out.below (HB.out _ _)) (one_ints _) (by omega) (by first | (simp;done) | (simp;omega)) ?_;intro v1 w1 o1 b1 _)
 obtain ⟨oa,oc,rfl,_⟩:=(SlAt.of_own o1).shape
 have hb:=hD ((HB.out _ _).trans b1)
 have hs:=hD (SlAt.of_own o1)
 have e0:1+vars.length=(x::vars).length:=by simp;omega
 rw [e0] at hs |-
 clear o1 b1 e0
 go_ret
 exact ⟨_,_,rfl,hs.out,hb.out⟩
theorem uniq_any (acc:List Int) (v:Int):uniq acc v=if (acc.any (v==·))=true then acc else acc++[v]:=by
 unfold uniq
 congr 1
 rw [eq_iff_iff,List.contains_iff_mem,List.any_eq_true]
 constructor
 ·intro h;exact ⟨v,h,by simp⟩
 ·rintro ⟨y,h1,h2⟩;have:v=y:=by simpa using h2
  rw [this];exact h1
set_option maxHeartbeats 1600000
theorem vars1_n (va vb vv:Value) (rel c x y z:Int) (coef vars vs:List Int) (w:World) (h0:IsAt w va coef) (h1:IsAt w vb vars) (h2:IsAt w vv vs) (hl1:vars.length<=4095) (_hl2:vs.length<=4095) :
  Calls Tryz.prog 63 #[propV 1 va vb rel c x y z vv] w fun e w'=>∃ ao cap,e=.returned (.slice ao (uniqL vars).length cap)/\IsAt w' (.slice ao (uniqL vars).length cap) (uniqL vars)/\Below w.heap.size w w'/\∀ b,(Value.slice ao (uniqL vars).length cap).ownBlock=some b->w.heap.size<=b:=by
 obtain ⟨i0,hi,hz0,hz1,hz2⟩:=info_parts Tryz.infoIntR
 obtain ⟨a0,c0,rfl,_⟩:=SlAt.shape h0
 obtain ⟨a1,c1,rfl,_⟩:=SlAt.shape h1
 obtain ⟨a2,c2,rfl,_⟩:=SlAt.shape h2
 have HZ:Hid (Below w.heap.size w (w.alloc (.cells #[.int .i64 1,.slice a0 coef.length c0,.slice a1 vars.length c1,.int .i64 rel,.int .i64 c,.int .i64 x,.int .i64 y,.int .i64 z,.slice a2 vs.length c2] 67))):=bA _
 have CO:Hid (Calls Tryz.prog 84 #[.agg #[.int .i64 1,.slice a0 coef.length c0,.slice a1 vars.length c1,.int .i64 rel,.int .i64 c,.int .i64 x,.int .i64 y,.int .i64 z,.slice a2 vs.length c2]] (w.alloc (.cells #[.int .i64 1,.slice a0 coef.length c0,.slice a1 vars.length c1,.int .i64 rel,.int .i64 c,.int .i64 x,.int .i64 y,.int .i64 z,.slice a2 vs.length c2] 67)) fun e w'=>e=.returned (.iface 124 (.agg #[.slice a0 coef.length c0,.slice a1 vars.length c1,.int .i64 rel,.int .i64 c]))/\Below (w.alloc (.cells #[.int .i64 1,.slice a0 coef.length c0,.slice a1 vars.length c1,.int .i64 rel,.int .i64 c,.int .i64 x,.int .i64 y,.int .i64 z,.slice a2 vs.length c2] 67)).heap.size _ w'):=of_c 1 a0 a1 a2 coef.length vars.length vs.length c0 c1 c2 rel c x y z _
 have CV:Hid (∀ W,Below w.heap.size w W->Calls Tryz.prog 156 #[.agg #[.slice a0 coef.length c0,.slice a1 vars.length c1,.int .i64 rel,.int .i64 c]] W fun e w'=>∃ ao cap,e=.returned (.slice ao vars.length cap)/\IsAt w' (.slice ao vars.length cap) vars/\Below W.heap.size W w'):=fun W h=>(varsLin_c a0 a1 coef.length vars.length c0 c1 rel c W).mono fun e w' ⟨he,hb⟩=>⟨a1,c1,he,h1.below (bT h hb),hb⟩
 have hal:vars.length<=4096:=by first | omega | (simp;done) | (simp;omega)
 clear h0 h1 h2 hl1 _hl2
 unfold propV
 go_enter Tryz.func63,Tryz.ntmps63
 go_wp2_with (first
  | (go_at_call 84;(with_reducible refine CO.out.mono ?_);rintro e W1 ⟨rfl,bb⟩;have B1:=hD (bT HZ.out bb);clear bb)
  | (go_at_call 156;(with_reducible refine (CV.out _ B1.out).mono ?_);rintro e W2 ⟨a3,c3,rfl,i3,bb⟩;have B2:=hD (bT B1.out bb);have I3:=hD i3;clear bb i3))
 go_loopw [4,14] (fun o s wr=>∃ i:Nat,i<=vars.length/\s=.int .i64 i/\wr.ownsRow W2.heap.size 3 1 o (uniqL (vars.take i)).length ((uniqL (vars.take i)).map (Value.int .i64))/\Hid (Below W2.heap.size W2 wr)) (fun _ s _=>vars.length - (intOf s).toNat)
 case atStart=>exact ⟨0,by omega,rfl,World.ownsRow_nil _ _ _ _,hD (Below.refl _ _)⟩
 case round =>
  obtain ⟨i,hil,rfl,hown,HB⟩:=hrel
  have hle:=HB.out.size
  have hul:=uniqL_len (vars.take i)
  by_cases hlt:i<vars.length
  ·obtain ⟨b1,o1,rfl,q1,q2,x1⟩:=I3.out.getR i hlt
   rw [<- HB.out.cell (p:=⟨b1,o1+i,none⟩) q2] at x1
   have hun:=uniqL_snoc (vars.take i) vars[i]
   rw [<- List.take_succ_eq_append_getElem hlt,uniq_any] at hun
   have HU:=hD hun
   have hOl:(uniqL (vars.take i)).length<=4096:=by rw [List.length_take] at hul;omega
   have j1:(i:Int)<vars.length:=by omega
   clear hun hul
   generalize uniqL (vars.take i)=O at *
   generalize vars[i]=v at *
   obtain ⟨oa,oc,rfl,_⟩:=(SlAt.of_own hown).shape
   have CC:=hD (contains_any (.slice oa O.length oc) O v wr (SlAt.of_own hown) (by omega))
   generalize O.any (v==·)=bo at *
   cases bo
   ·have HU2:Hid (uniqL (vars.take (i+1))=O++[v]):=HU.out
    go_wp2_with (first
     | (go_at_call 88;(with_reducible refine CC.out.mono ?_);rintro e w' ⟨rfl,rfl⟩)
     | (at_builtin;refine wpList_append1 rfl (.tmp 22) (.tmp 24) 26 rfl W2.heap.size 3 i0 (.int .i64 0) 8 Tryz.underlying26 hi hz0 hz1 hz2 rfl _ _ _ rfl hown _ rfl rfl (by omega) hle ?_;intro v' w1 ow bw _ _))
    refine ⟨⟨i+1,by omega,by go_num,?_,hD (HB.out.trans bw)⟩,by simp [intOf];omega⟩
    rw [HU2.out,List.length_append,List.map_append]
    exact ow
   ·have HU2:Hid (uniqL (vars.take (i+1))=O):=HU.out
    go_wp2_with (go_at_call 88;(with_reducible refine CC.out.mono ?_);rintro e w' ⟨rfl,rfl⟩)
    exact ⟨⟨i+1,by omega,by go_num,by rw [HU2.out];exact hown,HB⟩,by simp [intOf];omega⟩
  ·obtain rfl:i=vars.length:=by omega
   rw [List.take_length] at hown
   obtain ⟨oa,oc,rfl,_⟩:=(SlAt.of_own hown).shape
   go_wp2
   go_ret
   exact ⟨_,_,rfl,SlAt.of_own hown,bT B2.out HB.out,fun b hb=>Nat.le_trans B2.out.size (hown.lt b hb).1⟩
theorem vars2_n (va vb vv:Value) (rel c x y z:Int) (coef vars vs:List Int) (w:World) (h0:IsAt w va coef) (h1:IsAt w vb vars) (h2:IsAt w vv vs) (_hl1:vars.length<=4095) (_hl2:vs.length<=4095) :
  Calls Tryz.prog 63 #[propV 2 va vb rel c x y z vv] w fun e w'=>∃ ao cap,e=.returned (.slice ao (uniqL [x,y,z]).length cap)/\IsAt w' (.slice ao (uniqL [x,y,z]).length cap) (uniqL [x,y,z])/\Below w.heap.size w w'/\∀ b,(Value.slice ao (uniqL [x,y,z]).length cap).ownBlock=some b->w.heap.size<=b:=by
 obtain ⟨i0,hi,hz0,hz1,hz2⟩:=info_parts Tryz.infoIntR
 obtain ⟨a0,c0,rfl,_⟩:=SlAt.shape h0
 obtain ⟨a1,c1,rfl,_⟩:=SlAt.shape h1
 obtain ⟨a2,c2,rfl,_⟩:=SlAt.shape h2
 have HZ:Hid (Below w.heap.size w (w.alloc (.cells #[.int .i64 2,.slice a0 coef.length c0,.slice a1 vars.length c1,.int .i64 rel,.int .i64 c,.int .i64 x,.int .i64 y,.int .i64 z,.slice a2 vs.length c2] 67))):=bA _
 have CO:Hid (Calls Tryz.prog 84 #[.agg #[.int .i64 2,.slice a0 coef.length c0,.slice a1 vars.length c1,.int .i64 rel,.int .i64 c,.int .i64 x,.int .i64 y,.int .i64 z,.slice a2 vs.length c2]] (w.alloc (.cells #[.int .i64 2,.slice a0 coef.length c0,.slice a1 vars.length c1,.int .i64 rel,.int .i64 c,.int .i64 x,.int .i64 y,.int .i64 z,.slice a2 vs.length c2] 67)) fun e w'=>e=.returned (.iface 141 (.agg #[.int .i64 x,.int .i64 y,.int .i64 z]))/\Below (w.alloc (.cells #[.int .i64 2,.slice a0 coef.length c0,.slice a1 vars.length c1,.int .i64 rel,.int .i64 c,.int .i64 x,.int .i64 y,.int .i64 z,.slice a2 vs.length c2] 67)).heap.size _ w'):=of_c 2 a0 a1 a2 coef.length vars.length vs.length c0 c1 c2 rel c x y z _
 have CV:Hid (∀ W,Below w.heap.size w W->Calls Tryz.prog 183 #[.agg #[.int .i64 x,.int .i64 y,.int .i64 z]] W fun e w'=>∃ ao cap,e=.returned (.slice ao [x,y,z].length cap)/\IsAt w' (.slice ao [x,y,z].length cap) [x,y,z]/\Below W.heap.size W w'):=fun W h=>varsProd_c x y z W
 have hal:[x,y,z].length<=4096:=by first | omega | (simp;done) | (simp;omega)
 clear h0 h1 h2 _hl1 _hl2
 unfold propV
 obtain ⟨A,hA⟩:∃ A,A=[x,y,z]:=⟨_,rfl⟩
 rw [<- hA] at CV hal |-
 clear hA
 go_enter Tryz.func63,Tryz.ntmps63
 go_wp2_with (first
  | (go_at_call 84;(with_reducible refine CO.out.mono ?_);rintro e W1 ⟨rfl,bb⟩;have B1:=hD (bT HZ.out bb);clear bb)
  | (go_at_call 183;(with_reducible refine (CV.out _ B1.out).mono ?_);rintro e W2 ⟨a3,c3,rfl,i3,bb⟩;have B2:=hD (bT B1.out bb);have I3:=hD i3;clear bb i3))
 go_loopw [4,14] (fun o s wr=>∃ i:Nat,i<=A.length/\s=.int .i64 i/\wr.ownsRow W2.heap.size 3 1 o (uniqL (A.take i)).length ((uniqL (A.take i)).map (Value.int .i64))/\Hid (Below W2.heap.size W2 wr)) (fun _ s _=>A.length - (intOf s).toNat)
 case atStart=>exact ⟨0,by omega,rfl,World.ownsRow_nil _ _ _ _,hD (Below.refl _ _)⟩
 case round =>
  obtain ⟨i,hil,rfl,hown,HB⟩:=hrel
  have hle:=HB.out.size
  have hul:=uniqL_len (A.take i)
  by_cases hlt:i<A.length
  ·obtain ⟨b1,o1,rfl,q1,q2,x1⟩:=I3.out.getR i hlt
   rw [<- HB.out.cell (p:=⟨b1,o1+i,none⟩) q2] at x1
   have hun:=uniqL_snoc (A.take i) A[i]
   rw [<- List.take_succ_eq_append_getElem hlt,uniq_any] at hun
   have HU:=hD hun
   have hOl:(uniqL (A.take i)).length<=4096:=by rw [List.length_take] at hul;omega
   have j1:(i:Int)<A.length:=by omega
   clear hun hul
   generalize uniqL (A.take i)=O at *
   generalize A[i]=v at *
   obtain ⟨oa,oc,rfl,_⟩:=(SlAt.of_own hown).shape
   have CC:=hD (contains_any (.slice oa O.length oc) O v wr (SlAt.of_own hown) (by omega))
   generalize O.any (v==·)=bo at *
   cases bo
   ·have HU2:Hid (uniqL (A.take (i+1))=O++[v]):=HU.out
    go_wp2_with (first
     | (go_at_call 88;(with_reducible refine CC.out.mono ?_);rintro e w' ⟨rfl,rfl⟩)
     | (at_builtin;refine wpList_append1 rfl (.tmp 22) (.tmp 24) 26 rfl W2.heap.size 3 i0 (.int .i64 0) 8 Tryz.underlying26 hi hz0 hz1 hz2 rfl _ _ _ rfl hown _ rfl rfl (by omega) hle ?_;intro v' w1 ow bw _ _))
    refine ⟨⟨i+1,by omega,by go_num,?_,hD (HB.out.trans bw)⟩,by simp [intOf];omega⟩
    rw [HU2.out,List.length_append,List.map_append]
    exact ow
   ·have HU2:Hid (uniqL (A.take (i+1))=O):=HU.out
    go_wp2_with (go_at_call 88;(with_reducible refine CC.out.mono ?_);rintro e w' ⟨rfl,rfl⟩)
    exact ⟨⟨i+1,by omega,by go_num,by rw [HU2.out];exact hown,HB⟩,by simp [intOf];omega⟩
  ·obtain rfl:i=A.length:=by omega
   rw [List.take_length] at hown
   obtain ⟨oa,oc,rfl,_⟩:=(SlAt.of_own hown).shape
   go_wp2
   go_ret
   exact ⟨_,_,rfl,SlAt.of_own hown,bT B2.out HB.out,fun b hb=>Nat.le_trans B2.out.size (hown.lt b hb).1⟩
theorem vars3_n (va vb vv:Value) (rel c x y z:Int) (coef vars vs:List Int) (w:World) (h0:IsAt w va coef) (h1:IsAt w vb vars) (h2:IsAt w vv vs) (_hl1:vars.length<=4095) (hl2:vs.length<=4095) :
  Calls Tryz.prog 63 #[propV 3 va vb rel c x y z vv] w fun e w'=>∃ ao cap,e=.returned (.slice ao (uniqL vs).length cap)/\IsAt w' (.slice ao (uniqL vs).length cap) (uniqL vs)/\Below w.heap.size w w'/\∀ b,(Value.slice ao (uniqL vs).length cap).ownBlock=some b->w.heap.size<=b:=by
 obtain ⟨i0,hi,hz0,hz1,hz2⟩:=info_parts Tryz.infoIntR
 obtain ⟨a0,c0,rfl,_⟩:=SlAt.shape h0
 obtain ⟨a1,c1,rfl,_⟩:=SlAt.shape h1
 obtain ⟨a2,c2,rfl,_⟩:=SlAt.shape h2
 have HZ:Hid (Below w.heap.size w (w.alloc (.cells #[.int .i64 3,.slice a0 coef.length c0,.slice a1 vars.length c1,.int .i64 rel,.int .i64 c,.int .i64 x,.int .i64 y,.int .i64 z,.slice a2 vs.length c2] 67))):=bA _
 have CO:Hid (Calls Tryz.prog 84 #[.agg #[.int .i64 3,.slice a0 coef.length c0,.slice a1 vars.length c1,.int .i64 rel,.int .i64 c,.int .i64 x,.int .i64 y,.int .i64 z,.slice a2 vs.length c2]] (w.alloc (.cells #[.int .i64 3,.slice a0 coef.length c0,.slice a1 vars.length c1,.int .i64 rel,.int .i64 c,.int .i64 x,.int .i64 y,.int .i64 z,.slice a2 vs.length c2] 67)) fun e w'=>e=.returned (.iface 128 (.agg #[.slice a2 vs.length c2]))/\Below (w.alloc (.cells #[.int .i64 3,.slice a0 coef.length c0,.slice a1 vars.length c1,.int .i64 rel,.int .i64 c,.int .i64 x,.int .i64 y,.int .i64 z,.slice a2 vs.length c2] 67)).heap.size _ w'):=of_c 3 a0 a1 a2 coef.length vars.length vs.length c0 c1 c2 rel c x y z _
 have CV:Hid (∀ W,Below w.heap.size w W->Calls Tryz.prog 180 #[.agg #[.slice a2 vs.length c2]] W fun e w'=>∃ ao cap,e=.returned (.slice ao vs.length cap)/\IsAt w' (.slice ao vs.length cap) vs/\Below W.heap.size W w'):=fun W h=>(varsDiff_c a2 vs.length c2 W).mono fun e w' ⟨he,hb⟩=>⟨a2,c2,he,h2.below (bT h hb),hb⟩
 have hal:vs.length<=4096:=by first | omega | (simp;done) | (simp;omega)
 clear h0 h1 h2 _hl1 hl2
 unfold propV
 go_enter Tryz.func63,Tryz.ntmps63
 go_wp2_with (first
  | (go_at_call 84;(with_reducible refine CO.out.mono ?_);rintro e W1 ⟨rfl,bb⟩;have B1:=hD (bT HZ.out bb);clear bb)
  | (go_at_call 180;(with_reducible refine (CV.out _ B1.out).mono ?_);rintro e W2 ⟨a3,c3,rfl,i3,bb⟩;have B2:=hD (bT B1.out bb);have I3:=hD i3;clear bb i3))
 go_loopw [4,14] (fun o s wr=>∃ i:Nat,i<=vs.length/\s=.int .i64 i/\wr.ownsRow W2.heap.size 3 1 o (uniqL (vs.take i)).length ((uniqL (vs.take i)).map (Value.int .i64))/\Hid (Below W2.heap.size W2 wr)) (fun _ s _=>vs.length - (intOf s).toNat)
 case atStart=>exact ⟨0,by omega,rfl,World.ownsRow_nil _ _ _ _,hD (Below.refl _ _)⟩
 case round =>
  obtain ⟨i,hil,rfl,hown,HB⟩:=hrel
  have hle:=HB.out.size
  have hul:=uniqL_len (vs.take i)
  by_cases hlt:i<vs.length
  ·obtain ⟨b1,o1,rfl,q1,q2,x1⟩:=I3.out.getR i hlt
   rw [<- HB.out.cell (p:=⟨b1,o1+i,none⟩) q2] at x1
   have hun:=uniqL_snoc (vs.take i) vs[i]
   rw [<- List.take_succ_eq_append_getElem hlt,uniq_any] at hun
   have HU:=hD hun
   have hOl:(uniqL (vs.take i)).length<=4096:=by rw [List.length_take] at hul;omega
   have j1:(i:Int)<vs.length:=by omega
   clear hun hul
   generalize uniqL (vs.take i)=O at *
   generalize vs[i]=v at *
   obtain ⟨oa,oc,rfl,_⟩:=(SlAt.of_own hown).shape
   have CC:=hD (contains_any (.slice oa O.length oc) O v wr (SlAt.of_own hown) (by omega))
   generalize O.any (v==·)=bo at *
   cases bo
   ·have HU2:Hid (uniqL (vs.take (i+1))=O++[v]):=HU.out
    go_wp2_with (first
     | (go_at_call 88;(with_reducible refine CC.out.mono ?_);rintro e w' ⟨rfl,rfl⟩)
     | (at_builtin;refine wpList_append1 rfl (.tmp 22) (.tmp 24) 26 rfl W2.heap.size 3 i0 (.int .i64 0) 8 Tryz.underlying26 hi hz0 hz1 hz2 rfl _ _ _ rfl hown _ rfl rfl (by omega) hle ?_;intro v' w1 ow bw _ _))
    refine ⟨⟨i+1,by omega,by go_num,?_,hD (HB.out.trans bw)⟩,by simp [intOf];omega⟩
    rw [HU2.out,List.length_append,List.map_append]
    exact ow
   ·have HU2:Hid (uniqL (vs.take (i+1))=O):=HU.out
    go_wp2_with (go_at_call 88;(with_reducible refine CC.out.mono ?_);rintro e w' ⟨rfl,rfl⟩)
    exact ⟨⟨i+1,by omega,by go_num,by rw [HU2.out];exact hown,HB⟩,by simp [intOf];omega⟩
  ·obtain rfl:i=vs.length:=by omega
   rw [List.take_length] at hown
   obtain ⟨oa,oc,rfl,_⟩:=(SlAt.of_own hown).shape
   go_wp2
   go_ret
   exact ⟨_,_,rfl,SlAt.of_own hown,bT B2.out HB.out,fun b hb=>Nat.le_trans B2.out.size (hown.lt b hb).1⟩
theorem vars4_n (va vb vv:Value) (rel c x y z:Int) (coef vars vs:List Int) (w:World) (h0:IsAt w va coef) (h1:IsAt w vb vars) (h2:IsAt w vv vs) (hl1:vars.length<=4095) (_hl2:vs.length<=4095) :
  Calls Tryz.prog 63 #[propV 4 va vb rel c x y z vv] w fun e w'=>∃ ao cap,e=.returned (.slice ao (uniqL (x::vars)).length cap)/\IsAt w' (.slice ao (uniqL (x::vars)).length cap) (uniqL (x::vars))/\Below w.heap.size w w'/\∀ b,(Value.slice ao (uniqL (x::vars)).length cap).ownBlock=some b->w.heap.size<=b:=by
 obtain ⟨i0,hi,hz0,hz1,hz2⟩:=info_parts Tryz.infoIntR
 obtain ⟨a0,c0,rfl,_⟩:=SlAt.shape h0
 obtain ⟨a1,c1,rfl,_⟩:=SlAt.shape h1
 obtain ⟨a2,c2,rfl,_⟩:=SlAt.shape h2
 have HZ:Hid (Below w.heap.size w (w.alloc (.cells #[.int .i64 4,.slice a0 coef.length c0,.slice a1 vars.length c1,.int .i64 rel,.int .i64 c,.int .i64 x,.int .i64 y,.int .i64 z,.slice a2 vs.length c2] 67))):=bA _
 have CO:Hid (Calls Tryz.prog 84 #[.agg #[.int .i64 4,.slice a0 coef.length c0,.slice a1 vars.length c1,.int .i64 rel,.int .i64 c,.int .i64 x,.int .i64 y,.int .i64 z,.slice a2 vs.length c2]] (w.alloc (.cells #[.int .i64 4,.slice a0 coef.length c0,.slice a1 vars.length c1,.int .i64 rel,.int .i64 c,.int .i64 x,.int .i64 y,.int .i64 z,.slice a2 vs.length c2] 67)) fun e w'=>e=.returned (.iface 126 (.agg #[.int .i64 x,.slice a0 coef.length c0,.slice a1 vars.length c1,.int .i64 rel,.int .i64 c]))/\Below (w.alloc (.cells #[.int .i64 4,.slice a0 coef.length c0,.slice a1 vars.length c1,.int .i64 rel,.int .i64 c,.int .i64 x,.int .i64 y,.int .i64 z,.slice a2 vs.length c2] 67)).heap.size _ w'):=of_c 4 a0 a1 a2 coef.length vars.length vs.length c0 c1 c2 rel c x y z _
 have CV:Hid (∀ W,Below w.heap.size w W->Calls Tryz.prog 171 #[.agg #[.int .i64 x,.slice a0 coef.length c0,.slice a1 vars.length c1,.int .i64 rel,.int .i64 c]] W fun e w'=>∃ ao cap,e=.returned (.slice ao (x::vars).length cap)/\IsAt w' (.slice ao (x::vars).length cap) (x::vars)/\Below W.heap.size W w'):=fun W h=>varsReif_c x rel c a0 coef.length c0 _ vars W (h1.below h) (by omega)
 have hal:(x::vars).length<=4096:=by first | omega | (simp;done) | (simp;omega)
 clear h0 h1 h2 hl1 _hl2
 unfold propV
 obtain ⟨A,hA⟩:∃ A,A=(x::vars):=⟨_,rfl⟩
 rw [<- hA] at CV hal |-
 clear hA
 go_enter Tryz.func63,Tryz.ntmps63
 go_wp2_with (first
  | (go_at_call 84;(with_reducible refine CO.out.mono ?_);rintro e W1 ⟨rfl,bb⟩;have B1:=hD (bT HZ.out bb);clear bb)
  | (go_at_call 171;(with_reducible refine (CV.out _ B1.out).mono ?_);rintro e W2 ⟨a3,c3,rfl,i3,bb⟩;have B2:=hD (bT B1.out bb);have I3:=hD i3;clear bb i3))
 go_loopw [4,14] (fun o s wr=>∃ i:Nat,i<=A.length/\s=.int .i64 i/\wr.ownsRow W2.heap.size 3 1 o (uniqL (A.take i)).length ((uniqL (A.take i)).map (Value.int .i64))/\Hid (Below W2.heap.size W2 wr)) (fun _ s _=>A.length - (intOf s).toNat)
 case atStart=>exact ⟨0,by omega,rfl,World.ownsRow_nil _ _ _ _,hD (Below.refl _ _)⟩
 case round =>
  obtain ⟨i,hil,rfl,hown,HB⟩:=hrel
  have hle:=HB.out.size
  have hul:=uniqL_len (A.take i)
  by_cases hlt:i<A.length
  ·obtain ⟨b1,o1,rfl,q1,q2,x1⟩:=I3.out.getR i hlt
   rw [<- HB.out.cell (p:=⟨b1,o1+i,none⟩) q2] at x1
   have hun:=uniqL_snoc (A.take i) A[i]
   rw [<- List.take_succ_eq_append_getElem hlt,uniq_any] at hun
   have HU:=hD hun
   have hOl:(uniqL (A.take i)).length<=4096:=by rw [List.length_take] at hul;omega
   have j1:(i:Int)<A.length:=by omega
   clear hun hul
   generalize uniqL (A.take i)=O at *
   generalize A[i]=v at *
   obtain ⟨oa,oc,rfl,_⟩:=(SlAt.of_own hown).shape
   have CC:=hD (contains_any (.slice oa O.length oc) O v wr (SlAt.of_own hown) (by omega))
   generalize O.any (v==·)=bo at *
   cases bo
   ·have HU2:Hid (uniqL (A.take (i+1))=O++[v]):=HU.out
    go_wp2_with (first
     | (go_at_call 88;(with_reducible refine CC.out.mono ?_);rintro e w' ⟨rfl,rfl⟩)
     | (at_builtin;refine wpList_append1 rfl (.tmp 22) (.tmp 24) 26 rfl W2.heap.size 3 i0 (.int .i64 0) 8 Tryz.underlying26 hi hz0 hz1 hz2 rfl _ _ _ rfl hown _ rfl rfl (by omega) hle ?_;intro v' w1 ow bw _ _))
    refine ⟨⟨i+1,by omega,by go_num,?_,hD (HB.out.trans bw)⟩,by simp [intOf];omega⟩
    rw [HU2.out,List.length_append,List.map_append]
    exact ow
   ·have HU2:Hid (uniqL (A.take (i+1))=O):=HU.out
    go_wp2_with (go_at_call 88;(with_reducible refine CC.out.mono ?_);rintro e w' ⟨rfl,rfl⟩)
    exact ⟨⟨i+1,by omega,by go_num,by rw [HU2.out];exact hown,HB⟩,by simp [intOf];omega⟩
  ·obtain rfl:i=A.length:=by omega
   rw [List.take_length] at hown
   obtain ⟨oa,oc,rfl,_⟩:=(SlAt.of_own hown).shape
   go_wp2
   go_ret
   exact ⟨_,_,rfl,SlAt.of_own hown,bT B2.out HB.out,fun b hb=>Nat.le_trans B2.out.size (hown.lt b hb).1⟩
theorem vars0_c (kind:Int) (va vb vv:Value) (rel c x y z:Int) (coef vars vs:List Int) (w:World) (h0:IsAt w va coef) (h1:IsAt w vb vars) (h2:IsAt w vv vs) (_hl1:vars.length<=4095) (_hl2:vs.length<=4095) (k1:kind≠1) (k2:kind≠2) (k3:kind≠3) (k4:kind≠4) :
  Calls Tryz.prog 63 #[propV kind va vb rel c x y z vv] w fun e w'=>e=.returned (.slice none 0 0)/\Below w.heap.size w w':=by
 obtain ⟨a0,c0,rfl,_⟩:=SlAt.shape h0
 obtain ⟨a1,c1,rfl,_⟩:=SlAt.shape h1
 obtain ⟨a2,c2,rfl,_⟩:=SlAt.shape h2
 have HZ:Hid (Below w.heap.size w (w.alloc (.cells #[.int .i64 kind,.slice a0 coef.length c0,.slice a1 vars.length c1,.int .i64 rel,.int .i64 c,.int .i64 x,.int .i64 y,.int .i64 z,.slice a2 vs.length c2] 67))):=bA _
 have CO:=hD (of_c kind a0 a1 a2 coef.length vars.length vs.length c0 c1 c2 rel c x y z (w.alloc (.cells #[.int .i64 kind,.slice a0 coef.length c0,.slice a1 vars.length c1,.int .i64 rel,.int .i64 c,.int .i64 x,.int .i64 y,.int .i64 z,.slice a2 vs.length c2] 67)))
 unfold ofV at CO
 rw [if_neg k1,if_neg k2,if_neg k3,if_neg k4] at CO
 unfold propV at *
 clear k1 k2 k3 k4
 go_enter Tryz.func63,Tryz.ntmps63
 go_wp2_with (go_at_call 84;(with_reducible refine CO.out.mono ?_);rintro e W1 ⟨rfl,bb⟩;have B1:=hD (bT HZ.out bb);clear bb)
 go_ret
 exact ⟨rfl,B1.out⟩
theorem vars_n (kind:Int) (va vb vv:Value) (rel c x y z:Int) (coef vars vs:List Int) (w:World) (h0:IsAt w va coef) (h1:IsAt w vb vars) (h2:IsAt w vv vs) (hl1:vars.length<=4095) (hl2:vs.length<=4095) :
  Calls Tryz.prog 63 #[propV kind va vb rel c x y z vv] w fun e w'=>∃ ao cap,e=.returned (.slice ao (uniqL (allL kind vars x y z vs)).length cap)/\IsAt w' (.slice ao (uniqL (allL kind vars x y z vs)).length cap) (uniqL (allL kind vars x y z vs))/\Below w.heap.size w w'/\∀ b,(Value.slice ao (uniqL (allL kind vars x y z vs)).length cap).ownBlock=some b->w.heap.size<=b:=by
 unfold allL
 by_cases k1:kind=1
 ·subst k1;simp only [if_true];exact vars1_n va vb vv rel c x y z coef vars vs w h0 h1 h2 hl1 hl2
 by_cases k2:kind=2
 ·subst k2;simp only [show ((2:Int)=1)=False by simp,if_true,if_false];exact vars2_n va vb vv rel c x y z coef vars vs w h0 h1 h2 hl1 hl2
 by_cases k3:kind=3
 ·subst k3;simp only [show ((3:Int)=1)=False by simp,show ((3:Int)=2)=False by simp,if_true,if_false];exact vars3_n va vb vv rel c x y z coef vars vs w h0 h1 h2 hl1 hl2
 by_cases k4:kind=4
 ·subst k4;simp only [show ((4:Int)=1)=False by simp,show ((4:Int)=2)=False by simp,show ((4:Int)=3)=False by simp,if_true,if_false];exact vars4_n va vb vv rel c x y z coef vars vs w h0 h1 h2 hl1 hl2
 rw [if_neg k1,if_neg k2,if_neg k3,if_neg k4]
 exact (vars0_c kind va vb vv rel c x y z coef vars vs w h0 h1 h2 hl1 hl2 k1 k2 k3 k4).mono fun e w' ⟨he,hb⟩=>⟨none,0,he,SlAt.nil,hb,fun b hb=>by simp [Value.ownBlock] at hb⟩
end
end Go.Proofs.YtaekdgikgbdnnaaGreat
