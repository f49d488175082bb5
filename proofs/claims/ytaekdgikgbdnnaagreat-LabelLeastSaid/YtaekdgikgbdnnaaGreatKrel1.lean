/-
  rel.of, the four kinds' vars, walked.
  CONSTRAINTS THAT COME IN.
  CONSTRAINTS, their variables: plain; no program.
  The reference's all, Vars of layer 16, walked.
  The reference's Vars of layer 16, walked.
  The four kinds' vars, called through the interface, walked.
-/
import Derived.Test.YtaekdgikgbdnnaaGreatKlin1
import Derived.Test.YtaekdgikgbdnnaaGreatKdom1
import Derived.Test.YtaekdgikgbdnnaaGreatKlib1
import Derived.Deep.QuietTactic
import Derived.BigQuiet
import Derived.Test.YtaekdgikgbdnnaaGreatKlin2
namespace Go.Proofs.YtaekdgikgbdnnaaGreat
section
open Go.RowKit
def propV (kind:Int) (va vb:Value) (rel c x y z:Int) (vv:Value):Value:=.agg #[.int .i64 kind,va,vb,.int .i64 rel,.int .i64 c,.int .i64 x,.int .i64 y,.int .i64 z,vv]
def ofV (kind:Int) (va vb:Value) (rel c x y z:Int) (vv:Value):Value :=
 if kind=1 then .iface 124 (.agg #[va,vb,.int .i64 rel,.int .i64 c]) else if kind=2 then .iface 141 (.agg #[.int .i64 x,.int .i64 y,.int .i64 z])
 else if kind=3 then .iface 128 (.agg #[vv]) else if kind=4 then .iface 126 (.agg #[.int .i64 x,va,vb,.int .i64 rel,.int .i64 c]) else .nilIface
set_option maxRecDepth 100000
set_option maxHeartbeats 800000
theorem of_c (kind:Int) (a0 a1 a2:Option Addr) (n0 n1 n2 c0 c1 c2:Nat) (rel c x y z:Int) (w:World) :
  Calls Tryz.prog 84 #[propV kind (.slice a0 n0 c0) (.slice a1 n1 c1) rel c x y z (.slice a2 n2 c2)] w fun e w'=>e=.returned (ofV kind (.slice a0 n0 c0) (.slice a1 n1 c1) rel c x y z (.slice a2 n2 c2))/\Below w.heap.size w w':=by
 unfold propV ofV
 by_cases h1:kind=1
 ·subst h1
  go_enter Tryz.func84,Tryz.ntmps84
  go_wp2
  go_ret
  exact ⟨rfl,bA _⟩
 by_cases h2:kind=2
 ·subst h2
  go_enter Tryz.func84,Tryz.ntmps84
  go_wp2
  go_ret
  exact ⟨rfl,bA _⟩
 by_cases h3:kind=3
 ·subst h3
  go_enter Tryz.func84,Tryz.ntmps84
  go_wp2
  go_ret
  exact ⟨rfl,bA _⟩
 by_cases h4:kind=4
 ·subst h4
  go_enter Tryz.func84,Tryz.ntmps84
  go_wp2
  go_ret
  exact ⟨rfl,bA _⟩
 ·have g1:(kind==1)=false:=beq_eq_false_iff_ne.2 h1
  have g2:(kind==2)=false:=beq_eq_false_iff_ne.2 h2
  have g3:(kind==3)=false:=beq_eq_false_iff_ne.2 h3
  have g4:(kind==4)=false:=beq_eq_false_iff_ne.2 h4
  rw [if_neg h1,if_neg h2,if_neg h3,if_neg h4]
  go_enter Tryz.func84,Tryz.ntmps84
  go_wp2
  go_ret
  exact ⟨rfl,bA _⟩
end
section
open Go.RowKit Go.ChangeShapes Go.WideShapes Go.ChangeAt
theorem cellsProp:Tryz.prog.cellsOf 67=9:=by kernel_rfl
theorem cellsLinP:Tryz.prog.cellsOf 65=4:=by kernel_rfl
theorem cellsIntP:Tryz.prog.cellsOf 3=1:=by kernel_rfl
theorem cellsIsP:Tryz.prog.cellsOf 26=1:=by kernel_rfl
theorem open_propL {H:Type} {enc:TypeId×Value->H} {w:World} {sp:Nat->Bool} {held:Bool} {fuel:Nat} {c0 c1 c2 c3 c4 c5 c6 c7 c8:Value} {y:DataW H×List MemPlace}
  (h:DataW.trod enc Tryz.prog w 0 sp held fuel 67 [c0,c1,c2,c3,c4,c5,c6,c7,c8]=some y) :
  ∃ kind rel c x y z:Int,∃ coef vars vs:List Int,c0=.int .i64 kind/\c3=.int .i64 rel/\c4=.int .i64 c/\c5=.int .i64 x/\c6=.int .i64 y/\c7=.int .i64 z/\IsAt w c1 coef/\IsAt w c2 vars/\IsAt w c8 vs:=by
 obtain ⟨xs,n,_,_,_,hlen,hF⟩:=DataW.trod_struct Tryz.underlying67 h
 match xs,hlen with
 | [y0,y1,y2,y3,y4,y5],_ =>
  have g0:=hF 0 _ rfl
  have g1:=hF 1 _ rfl
  have g2:=hF 2 _ rfl
  have g3:=hF 3 _ rfl
  have g4:=hF 4 _ rfl
  have g5:=hF 5 _ rfl
  simp [cellsIntP,cellsLinP,cellsIsP] at g0 g1 g2 g3 g4 g5
  obtain ⟨k,e0,_,_⟩:=DataW.trod_int Tryz.underlying3 g0
  obtain ⟨x,e2,_,_⟩:=DataW.trod_int Tryz.underlying3 g2
  obtain ⟨yy,e3,_,_⟩:=DataW.trod_int Tryz.underlying3 g3
  obtain ⟨z,e4,_,_⟩:=DataW.trod_int Tryz.underlying3 g4
  obtain ⟨vs,i5,_⟩:=open_isL g5
  obtain ⟨z0,z1,z2,z3,m,_,_,h0,h1,h2,h3⟩:=Joins.trod_struct4 Tryz.underlying65 g1
  simp [cellsIntP,cellsIsP] at h0 h1 h2 h3
  obtain ⟨coef,i0,_⟩:=open_isL h0
  obtain ⟨vars,i1,_⟩:=open_isL h1
  obtain ⟨r,e5,_,_⟩:=DataW.trod_int Tryz.underlying3 h2
  obtain ⟨cc,e6,_,_⟩:=DataW.trod_int Tryz.underlying3 h3
  simp at e0 e2 e3 e4 e5 e6
  exact ⟨k,r,cc,x,yy,z,coef,vars,vs,e0,e5,e6,e2,e3,e4,i0,i1,i5⟩
end
section
def allL (kind:Int) (vars:List Int) (x y z:Int) (vs:List Int):List Int:=if kind=1 then vars else if kind=2 then [x,y,z] else if kind=3 then vs else if kind=4 then x::vars else []
def uniq (acc:List Int) (v:Int):List Int:=if acc.contains v then acc else acc++[v]
def uniqL (l:List Int):List Int:=l.foldl uniq []
theorem uniqL_snoc (l:List Int) (v:Int):uniqL (l++[v])=uniq (uniqL l) v:=by unfold uniqL;rw [List.foldl_append];rfl
theorem uniqL_len (l:List Int):(uniqL l).length<=l.length:=by
 suffices h:∀ (l acc:List Int),(l.foldl uniq acc).length<=acc.length+l.length by simpa [uniqL] using h l []
 intro l
 induction l with
 | nil=>intro acc;simp
 | cons v l ih =>
  intro acc
  have h1:=ih (uniq acc v)
  have h2:(uniq acc v).length<=acc.length+1:=by unfold uniq;split <;> simp
  simp only [List.foldl_cons,List.length_cons];omega
structure PL where
 kind:Int
 rel:Int
 c:Int
 x:Int
 y:Int
 z:Int
 coef:List Int
 vars:List Int
 vs:List Int
end
section
open Go.RowKit
theorem Tryz.infoIntR:(Tryz.prog.info? 3).map (fun i=>(i.zero,i.size,i.bytes))=some (some (.int .i64 0),1,8):=by kernel_rfl
theorem own_made1 (w:World) (o:Obj):((w.alloc o).alloc (.cells #[] 3)).ownsRow w.heap.size 3 1 (.slice (some ⟨w.heap.size+1,0,none⟩) 0 0) 0 []:=by
 have h:=World.ownsRow_made (w.alloc o) #[] 0 (base:=w.heap.size) (e:=3) (size:=1) (by simp) (by decide) rfl
 rw [show (w.alloc o).heap.size=w.heap.size+1 by simp] at h
 exact h
theorem own_made1' (w:World) (o:Obj):((w.alloc o).alloc (.cells #[] 3)).ownsRow (w.heap.size+1) 3 1 (.slice (some ⟨w.heap.size+1,0,none⟩) 0 0) 0 []:=by
 have h:=World.ownsRow_made (w.alloc o) #[] 0 (base:=w.heap.size+1) (e:=3) (size:=1) (by simp) (by decide) rfl
 rw [show (w.alloc o).heap.size=w.heap.size+1 by simp] at h
 exact h
theorem isAt_litn (w:World) (zs:List Int) (T:TypeId) (hl:zs.length<=4096):IsAt (w.alloc (.cells (zs.map (Value.int .i64)).toArray T)) (.slice (some ⟨w.heap.size,0,none⟩) zs.length zs.length) zs:=by
 have h:=World.ownsRow_lit (base:=0) w (zs.map (Value.int .i64)).toArray zs.length (e:=T) (size:=1) (Nat.zero_le _) (by unfold maxLen;omega) (by simp)
 exact SlAt.of_own (by simpa using h)
theorem one_ints (zs:List Int):∀ u∈zs.map (Value.int .i64),u.oneCell'=true:=by
 intro u hu
 obtain ⟨z,_,rfl⟩:=List.mem_map.1 hu
 rfl
set_option maxHeartbeats 1600000
theorem all_c (kind:Int) (va vb vv:Value) (rel c x y z:Int) (coef vars vs:List Int) (w:World) (h0:IsAt w va coef) (h1:IsAt w vb vars) (h2:IsAt w vv vs) (hl1:vars.length<=4096) (hl2:vs.length<=4096) :
  Calls Tryz.prog 59 #[propV kind va vb rel c x y z vv] w fun e w'=>∃ ao cap,e=.returned (.slice ao (allL kind vars x y z vs).length cap)/\IsAt w' (.slice ao (allL kind vars x y z vs).length cap) (allL kind vars x y z vs)/\Below w.heap.size w w':=by
 obtain ⟨i0,hi,hz0,hz1,hz2⟩:=info_parts Tryz.infoIntR
 obtain ⟨a0,c0,rfl,_⟩:=SlAt.shape h0
 obtain ⟨a1,c1,rfl,_⟩:=SlAt.shape h1
 obtain ⟨a2,c2,rfl,_⟩:=SlAt.shape h2
 have HM:=hD (own_made1 w)
 have HB:Hid (∀ o o2,Below w.heap.size w ((w.alloc o).alloc o2)):=fun o o2=>((Below.refl _ _).alloc (rN _) o).alloc (by simp) o2
 have H1:=hD h1
 have H2:=hD h2
 clear h0 h1 h2
 unfold propV allL
 by_cases k1:kind=1
 ·subst k1
  simp only [if_true]
  go_enter Tryz.func59,Tryz.ntmps59
  go_wp2_with (at_builtin;refine wpList_append_sl rfl (.tmp 9) (.tmp 12) 26 rfl w.heap.size 3 i0 (.int .i64 0) 1 8 Tryz.underlying26 hi hz0 hz1 hz2 rfl (by decide) _ 0 [] rfl (HM.out _) _ vars.length _ rfl (H1.out.below (HB.out _ _)) (one_ints _) (by omega) (by simp;omega) ?_;intro v1 w1 o1 b1 _)
  obtain ⟨oa,oc,rfl,_⟩:=(SlAt.of_own o1).shape
  have hb:=hD ((HB.out _ _).trans b1)
  have hs:=hD (SlAt.of_own o1)
  rw [Nat.zero_add,List.nil_append] at hs
  rw [Nat.zero_add]
  clear o1 b1
  go_ret
  exact ⟨_,_,rfl,hs.out,hb.out⟩
 by_cases k2:kind=2
 ·subst k2
  simp only [show ((2:Int)=1)=False by simp,if_true,if_false]
  have HX:Hid (∀ W:World,IsAt (W.alloc (.cells #[.int .i64 x,.int .i64 y,.int .i64 z] 3)) (.slice (some ⟨W.heap.size,0,none⟩) 3 3) [x,y,z]):=fun W=>isAt_litn W [x,y,z] 3 (by simp)
  go_enter Tryz.func59,Tryz.ntmps59
  have HX2:Hid (∀ o o2:Obj,IsAt (((w.alloc o).alloc o2).alloc (.cells #[.int .i64 x,.int .i64 y,.int .i64 z] 3)) (.slice (some ⟨w.heap.size+1+1,0,none⟩) 3 3) [x,y,z]):=fun o o2=>by
   have h:=HX.out ((w.alloc o).alloc o2)
   rw [show ((w.alloc o).alloc o2).heap.size=w.heap.size+1+1 by simp] at h
   exact h
  go_wp2_with (at_builtin;refine wpList_append_sl rfl (.tmp 16) (.tmp 23) 26 rfl w.heap.size 3 i0 (.int .i64 0) 1 8 Tryz.underlying26 hi hz0 hz1 hz2 rfl (by decide) _ 0 [] rfl ((HM.out _).alloc _) _ 3 _ rfl (HX2.out _ _) (one_ints _) (by omega) (by simp;omega) ?_;intro v1 w1 o1 b1 _)
  obtain ⟨oa,oc,rfl,_⟩:=(SlAt.of_own o1).shape
  have hb:=hD (((HB.out _ _).alloc (by simp;omega) _).trans b1)
  have hs:=hD (SlAt.of_own o1)
  rw [Nat.zero_add,List.nil_append] at hs
  rw [Nat.zero_add]
  clear o1 b1
  go_ret
  exact ⟨_,_,rfl,hs.out,hb.out⟩
 by_cases k3:kind=3
 ·subst k3
  simp only [show ((3:Int)=1)=False by simp,show ((3:Int)=2)=False by simp,if_true,if_false]
  go_enter Tryz.func59,Tryz.ntmps59
  go_wp2_with (at_builtin;refine wpList_append_sl rfl (.tmp 27) (.tmp 29) 26 rfl w.heap.size 3 i0 (.int .i64 0) 1 8 Tryz.underlying26 hi hz0 hz1 hz2 rfl (by decide) _ 0 [] rfl (HM.out _) _ vs.length _ rfl (H2.out.below (HB.out _ _)) (one_ints _) (by omega) (by simp;omega) ?_;intro v1 w1 o1 b1 _)
  obtain ⟨oa,oc,rfl,_⟩:=(SlAt.of_own o1).shape
  have hb:=hD ((HB.out _ _).trans b1)
  have hs:=hD (SlAt.of_own o1)
  rw [Nat.zero_add,List.nil_append] at hs
  rw [Nat.zero_add]
  clear o1 b1
  go_ret
  exact ⟨_,_,rfl,hs.out,hb.out⟩
 by_cases k4:kind=4
 ·subst k4
  simp only [show ((4:Int)=1)=False by simp,show ((4:Int)=2)=False by simp,show ((4:Int)=3)=False by simp,if_true,if_false]
  have HX2:Hid (∀ o o2:Obj,IsAt (((w.alloc o).alloc o2).alloc (.cells #[.int .i64 x] 3)) (.slice (some ⟨w.heap.size+1+1,0,none⟩) 1 1) [x]):=fun o o2=>by
   have h:=isAt_litn ((w.alloc o).alloc o2) [x] 3 (by simp)
   rw [show ((w.alloc o).alloc o2).heap.size=w.heap.size+1+1 by simp] at h
   exact h
  have HB4:=hD (BoxL.mk' w #[.int .i64 4,.slice a0 coef.length c0,.slice a1 vars.length c1,.int .i64 rel,.int .i64 c,.int .i64 x,.int .i64 y,.int .i64 z,.slice a2 vs.length c2] 67)
  go_enter Tryz.func59,Tryz.ntmps59
  go_wp2_with (first
   | (at_builtin;refine wpList_append_sl rfl (.tmp 33) (.tmp 36) 26 rfl (w.heap.size+1) 3 i0 (.int .i64 0) 1 8 Tryz.underlying26 hi hz0 hz1 hz2 rfl (by decide) _ 0 [] rfl ((own_made1' w _).alloc _) _ 1 _ rfl (HX2.out _ _) (one_ints [x]) (by omega) (by first | (simp;done) | (simp;omega)) ?_;intro v1 w1 o1 b1 _;have q1:=((HB4.out.below (((Below.refl (w.heap.size+1) (w.alloc (.cells #[.int .i64 4,.slice a0 coef.length c0,.slice a1 vars.length c1,.int .i64 rel,.int .i64 c,.int .i64 x,.int .i64 y,.int .i64 z,.slice a2 vs.length c2] 67))).alloc (by simp) (.cells #[] 3)).alloc (by simp) (.cells #[.int .i64 x] 3)) (Nat.lt_succ_self _)).below b1 (Nat.lt_succ_self _)).get 2 rfl;have q2:=q1.1;clear q1)
   | (at_builtin;refine wpList_append_sl rfl (.tmp 38) (.tmp 41) 26 rfl (w.heap.size+1) 3 i0 (.int .i64 0) 1 8 Tryz.underlying26 hi hz0 hz1 hz2 rfl (by decide) _ (0+1) _ rfl o1 _ vars.length _ rfl (H1.out.below (((HB.out _ _).alloc (by simp;omega) _).trans (b1.mono (Nat.le_succ _)))) (one_ints _) (by omega) (by have:=b1.size;simp at this;omega) ?_;intro v2 w2 o2 b2 _))
  obtain ⟨oa,oc,rfl,_⟩:=(SlAt.of_own o2).shape
  have hb:=hD ((((HB.out _ _).alloc (by simp;omega) _).trans (b1.mono (Nat.le_succ _))).trans (b2.mono (Nat.le_succ _)))
  have hs:=hD (SlAt.of_own o2)
  have e0:0+1+vars.length=(x::vars).length:=by simp;omega
  rw [e0] at hs |-
  clear o1 b1 o2 b2 e0
  go_ret
  exact ⟨_,_,rfl,hs.out,hb.out⟩
 ·have g1:(kind==1)=false:=beq_eq_false_iff_ne.2 k1
  have g2:(kind==2)=false:=beq_eq_false_iff_ne.2 k2
  have g3:(kind==3)=false:=beq_eq_false_iff_ne.2 k3
  have g4:(kind==4)=false:=beq_eq_false_iff_ne.2 k4
  rw [if_neg k1,if_neg k2,if_neg k3,if_neg k4]
  clear k1 k2 k3 k4
  go_enter Tryz.func59,Tryz.ntmps59
  go_wp2
  go_ret
  exact ⟨_,_,rfl,SlAt.of_own (HM.out _),HB.out _ _⟩
theorem IsAt.getR {w:World} {ao:Option Addr} {n cap:Nat} {zs:List Int} (h:IsAt w (.slice ao n cap) zs) (k:Nat) (hk:k<zs.length) :
  ∃ b off,ao=some ⟨b,off,none⟩/\zs.length<=cap/\b<w.heap.size/\w.cell? ⟨b,off+k,none⟩=some (.int .i64 zs[k]):=by
 obtain ⟨b,off,c',he,hc,hb,hx⟩:=IsAt.at h (by omega)
 simp only [Value.slice.injEq] at he
 obtain ⟨rfl,rfl,rfl⟩:=he
 exact ⟨b,off,rfl,hc,hb,hx k hk⟩
theorem uniq_old (acc:List Int) (v:Int) (k:Nat) (hk:k<acc.length) (h:acc[k]=v):uniq acc v=acc:=by
 unfold uniq;rw [if_pos (by rw [List.contains_iff_mem];exact h ▸ List.getElem_mem hk)]
theorem uniq_new (acc:List Int) (v:Int) (h:∀ j,(hj:j<acc.length)->acc[j]≠v):uniq acc v=acc++[v]:=by
 unfold uniq;rw [if_neg]
 intro hc
 rw [List.contains_iff_mem] at hc
 obtain ⟨j,hj,e⟩:=List.getElem_of_mem hc
 exact h j hj e
theorem refVars_c (kind:Int) (va vb vv:Value) (rel c x y z:Int) (coef vars vs:List Int) (w:World) (h0:IsAt w va coef) (h1:IsAt w vb vars) (h2:IsAt w vv vs) (hl1:vars.length<=4096) (hl2:vs.length<=4096) :
  Calls Tryz.prog 72 #[propV kind va vb rel c x y z vv] w fun e w'=>∃ ao cap,e=.returned (.slice ao (uniqL (allL kind vars x y z vs)).length cap)/\IsAt w' (.slice ao (uniqL (allL kind vars x y z vs)).length cap) (uniqL (allL kind vars x y z vs))/\Below w.heap.size w w':=by
 obtain ⟨i0,hi,hz0,hz1,hz2⟩:=info_parts Tryz.infoIntR
 have hal:(allL kind vars x y z vs).length<=4097:=by
  unfold allL;split
  ·omega
  ·split
   ·simp
   ·split
    ·omega
    ·split <;> simp;omega
 have HZ:Hid (Below w.heap.size w (w.alloc (.cells #[.int .i64 kind,va,vb,.int .i64 rel,.int .i64 c,.int .i64 x,.int .i64 y,.int .i64 z,vv] 67))):=bA _
 have CA:=hD (all_c kind va vb vv rel c x y z coef vars vs _ (h0.below HZ.out) (h1.below HZ.out) (h2.below HZ.out) hl1 hl2)
 obtain ⟨a0,c0,rfl,_⟩:=SlAt.shape h0
 obtain ⟨a1,c1,rfl,_⟩:=SlAt.shape h1
 obtain ⟨a2,c2,rfl,_⟩:=SlAt.shape h2
 clear h0 h1 h2 hl1 hl2
 unfold propV at *
 generalize allL kind vars x y z vs=A at *
 go_enter Tryz.func72,Tryz.ntmps72
 go_wp2_with (go_at_call 59;(with_reducible refine CA.out.mono ?_);rintro e W1 ⟨a3,c3,rfl,i3,bb⟩;have B1:=hD (bT HZ.out bb);have I3:=hD i3;clear bb i3)
 go_loopw [4,5] (fun o s wr=>∃ i:Nat,i<=A.length/\s=.int .i64 i/\wr.ownsRow W1.heap.size 3 1 o (uniqL (A.take i)).length ((uniqL (A.take i)).map (Value.int .i64))/\Hid (Below W1.heap.size W1 wr)) (fun _ s _=>A.length - (intOf s).toNat)
 case atStart=>exact ⟨0,by omega,rfl,World.ownsRow_made W1 #[] 0 (rN _) (by decide) rfl,hD (bA _)⟩
 case round =>
  obtain ⟨i,hil,rfl,hown,HB⟩:=hrel
  have hle:=HB.out.size
  have hul:=uniqL_len (A.take i)
  by_cases hlt:i<A.length
  ·obtain ⟨b1,o1,rfl,q1,q2,x1⟩:=I3.out.getR i hlt
   have X1:=hD x1
   rw [<- HB.out.cell (p:=⟨b1,o1+i,none⟩) q2] at x1
   have hun:=uniqL_snoc (A.take i) A[i]
   rw [<- List.take_succ_eq_append_getElem hlt] at hun
   have HU:=hD hun
   have hOl:(uniqL (A.take i)).length<=4097:=by rw [List.length_take] at hul;omega
   have j1:(i:Int)<A.length:=by omega
   clear hun hul
   generalize uniqL (A.take i)=O at *
   generalize A[i]=v at *
   obtain ⟨oa,oc,rfl,_⟩:=(SlAt.of_own hown).shape
   have HOW:=hD hown
   have IO:=hD (show IsAt wr (.slice oa O.length oc) O from SlAt.of_own hown)
   clear hown
   obtain ⟨wo,rfl⟩:∃ wo:World,wo=wr:=⟨_,rfl⟩
   go_wp2
   go_loopw [6] (fun s wr=>∃ k:Nat,k<=O.length/\s=.int .i64 k/\Hid (∀ j,(hj:j<O.length)->j<k->O[j]≠v)/\Hid (Below wo.heap.size wo wr)) (fun s _=>O.length - (intOf s).toNat)
   case atStart=>exact ⟨0,by omega,rfl,fun j _ h=>by omega,hD (Below.refl _ _)⟩
   case round =>
    obtain ⟨k,hk,rfl,HN,HV⟩:=hrel
    have x2:=(HB.out.trans (HV.out.mono hle)).cell (p:=⟨b1,o1+i,none⟩) q2 |>.trans X1.out
    have hv:=HV.out.size
    have own2:=own_below HOW.out HV.out
    by_cases hkt:k<O.length
    ·obtain ⟨b2,o2,rfl,q3,q4,y1⟩:=IO.out.getR k hkt
     rw [<- HV.out.cell (p:=⟨b2,o2+k,none⟩) q4] at y1
     have j2:(k:Int)<O.length:=by omega
     have hdt:decide ((k:Int)<O.length)=true:=decide_eq_true j2
     have HQ:Hid (O[k]≠v->∀ j,(hj:j<O.length)->j<k+1->O[j]≠v):=fun h j hj hjk=>by
      rcases Nat.lt_or_ge j k with h1 | h1
      ·exact HN.out j hj h1
      ·obtain rfl:j=k:=by omega
       exact h
     have HOld:=hD (uniq_old O v k hkt)
     generalize O[k]=u at *
     by_cases huv:u=v
     ·have hne:(u != v)=false:=by simp [huv]
      have HO:=hD (HOld.out huv)
      have hko:((k:Int)==O.length)=false:=beq_eq_false_iff_ne.2 (by omega)
      clear huv
      go_wp2
      go_quiet (fail)
      go_wp2
      exact ⟨⟨i+1,by omega,by go_num,by rw [HU.out,HO.out];exact own2,hD (below_drewN (HB.out.trans (HV.out.mono hle)) _)⟩,by simp [intOf];omega⟩
     ·have hne:(u != v)=true:=by simpa using huv
      have HH:=hD (HQ.out huv)
      clear huv
      go_wp2
      go_quiet (fail)
      go_wp2
      exact ⟨⟨k+1,by omega,by go_num,HH,hD (below_drewN HV.out _)⟩,by simp [intOf];omega⟩
    ·obtain rfl:k=O.length:=by omega
     have hdt:decide ((O.length:Int)<O.length)=false:=by simp
     have HO:=hD (uniq_new O v (fun j hj=>HN.out j hj hj))
     go_wp2
     go_quiet (fail)
     have own3:(wr.drewN nq).ownsRow W1.heap.size 3 1 (.slice oa O.length oc) O.length (O.map (Value.int .i64)):=own2
     have x3:(wr.drewN nq).cell? ⟨b1,o1+i,none⟩=some (.int .i64 v):=x2
     have BV:=hD (below_drewN (HB.out.trans (HV.out.mono hle)) nq)
     have hv3:W1.heap.size<=(wr.drewN nq).heap.size:=by show _<=wr.heap.size;omega
     clear x2 own2
     generalize wr.drewN nq=w2 at *
     go_wp2_with (at_builtin;refine wpList_append1 rfl (.tmp 37) (.tmp 42) 26 rfl W1.heap.size 3 i0 (.int .i64 0) 8 Tryz.underlying26 hi hz0 hz1 hz2 rfl _ _ _ rfl own3 _ rfl rfl (by omega) hv3 ?_;intro v' w1 ow bw _ _)
     refine ⟨⟨i+1,by omega,by go_num,?_,hD (BV.out.trans bw)⟩,by simp [intOf];omega⟩
     rw [HU.out,HO.out,List.length_append,List.map_append]
     exact ow
  ·obtain rfl:i=A.length:=by omega
   rw [List.take_length] at hown
   obtain ⟨oa,oc,rfl,_⟩:=(SlAt.of_own hown).shape
   go_wp2
   go_ret
   exact ⟨_,_,rfl,SlAt.of_own hown,bT B1.out HB.out⟩
theorem varsLin_c (a0 a1:Option Addr) (n0 n1 c0 c1:Nat) (rel c:Int) (w:World) :
  Calls Tryz.prog 156 #[.agg #[.slice a0 n0 c0,.slice a1 n1 c1,.int .i64 rel,.int .i64 c]] w fun e w'=>e=.returned (.slice a1 n1 c1)/\Below w.heap.size w w':=by
 go_enter Tryz.func156,Tryz.ntmps156
 go_wp2
 go_ret
 exact ⟨rfl,bA _⟩
theorem varsDiff_c (a1:Option Addr) (n1 c1:Nat) (w:World) :
  Calls Tryz.prog 180 #[.agg #[.slice a1 n1 c1]] w fun e w'=>e=.returned (.slice a1 n1 c1)/\Below w.heap.size w w':=by
 go_enter Tryz.func180,Tryz.ntmps180
 go_wp2
 go_ret
 exact ⟨rfl,by first | exact bA _ | exact Below.refl _ _⟩
theorem varsProd_c (x y z:Int) (w:World) :
  Calls Tryz.prog 183 #[.agg #[.int .i64 x,.int .i64 y,.int .i64 z]] w fun e w'=>∃ ao cap,e=.returned (.slice ao 3 cap)/\IsAt w' (.slice ao 3 cap) [x,y,z]/\Below w.heap.size w w':=by
 go_enter Tryz.func183,Tryz.ntmps183
 go_wp2
 go_ret
 refine ⟨some ⟨w.heap.size+1,0,none⟩,3,rfl,?_,(bA _).alloc (by simp) _⟩
 have h:=World.ownsRow_lit (base:=0) (w.alloc (.cells #[.int .i64 x,.int .i64 y,.int .i64 z] 141)) #[.int .i64 x,.int .i64 y,.int .i64 z] 3 (e:=3) (size:=1) (Nat.zero_le _) (by simp [maxLen]) rfl
 rw [show (w.alloc (.cells #[.int .i64 x,.int .i64 y,.int .i64 z] 141)).heap.size=w.heap.size+1 by simp] at h
 exact SlAt.of_own h
end
end Go.Proofs.YtaekdgikgbdnnaaGreat
