/-
  The document's own test of a search's start, walked.
  Solve of both, walked: what is found, or what is wrong.
  LabelSolves: what is found, in which order, is the document's, or its error.
-/
import Derived.Test.YtaekdgikgbdnnaaGreatKref14
import Derived.Test.YtaekdgikgbdnnaaGreatKref12
import Derived.Handy
namespace Go.Proofs.YtaekdgikgbdnnaaGreat
section
open Go.RowKit
set_option maxRecDepth 100000
set_option maxHeartbeats 1600000
theorem wrong_c (vds vps vv vw:Value) (sel ord br:Int) (ds:Ds) (ps:List PL) (vars ws:List Int) (most nodes:Int) (w:World) (hd:DsAt w vds ds) (hp:PsAt w vps ps) (hv:IsAt w vv vars) (hw:IsAt w vw ws)
  (hok:∀ p∈ps,p.ok) (hdl:ds.length<=4096) :
  Calls Tryz.prog 30 #[vds,vps,vv,.agg #[.int .i64 sel,.int .i64 ord,.int .i64 br,vw],.int .i64 most,.int .i64 nodes] w fun e w' =>
   e=.returned (.int .i64 (begChk sel ord br ws.length ds.length ps vars most nodes))/\Below w.heap.size w w':=by
 obtain ⟨a0,c0,rfl,_⟩:=hd.shape
 obtain ⟨a1,c1,rfl,_⟩:=hp.shape
 obtain ⟨a2,c2,rfl,_⟩:=hv.shape'
 obtain ⟨a3,c3,rfl,_⟩:=hw.shape'
 obtain ⟨W0,hW0⟩:∃ W0,W0=w.alloc (.cells #[.int .i64 sel,.int .i64 ord,.int .i64 br,.slice a3 ws.length c3] 28):=⟨_,rfl⟩
 have B0:Hid (Below w.heap.size w W0):=by rw [hW0];exact bA _
 have hB1:BoxL W0 w.heap.size [.int .i64 sel,.int .i64 ord,.int .i64 br,.slice a3 ws.length c3]:=by
  rw [hW0];exact BoxL.mk' w #[.int .i64 sel,.int .i64 ord,.int .i64 br,.slice a3 ws.length c3] 28
 have CL:=hD (refLabCheck_c sel ord br a3 ws.length c3 W0)
 have CF:Hid (∀ W,Below W0.heap.size W0 W->Calls Tryz.prog 24 #[.slice a0 ds.length c0,.slice a1 ps.length c1] W fun e w'=>e=.returned (.int .i64 (fixChk ds.length ps))/\Below W.heap.size W w'):=fun W h=>by
  have hb:=bT B0.out h
  exact refFixCheck_c (.slice a0 ds.length c0) (.slice a1 ps.length c1) ds ps W (hd.below hb) (hp.below hb) (fun j hj=>hok _ (List.getElem_mem hj))
 have HV:=hD hv
 obtain ⟨l0,_⟩:=hB1.get 0 rfl
 obtain ⟨l1,_⟩:=hB1.get 1 rfl
 obtain ⟨l2,_⟩:=hB1.get 2 rfl
 obtain ⟨l3,_⟩:=hB1.get 3 rfl
 have HWE:=hD hW0
 clear hd hp hv hw hok hW0 hB1
 unfold begChk
 by_cases q1:labChk sel ord br ws.length≠0
 ·rw [if_pos q1]
  have e1:(labChk sel ord br ws.length != 0)=true:=by simpa using q1
  clear q1
  generalize labChk sel ord br ws.length=kk at *
  go_enter Tryz.func30,Tryz.ntmps30
  go_upto_region 1 with fail
  rw [<- HWE.out]
  go_wp2_with (first
   | (go_at_call 11;(with_reducible refine CL.out.mono ?_);rintro e W1 ⟨rfl,b1⟩;have B1:=hD b1;clear b1)
   | (go_at_call 24;(with_reducible refine (CF.out _ B1.out).mono ?_);rintro e W2 ⟨rfl,b2⟩;have B2:=hD (bT B1.out b2);clear b2))
  go_ret
  exact ⟨rfl,bT B0.out B1.out⟩
 rw [if_neg q1]
 have q1':labChk sel ord br ws.length=0:=Decidable.not_not.1 q1
 rw [q1'] at CL
 clear q1 q1'
 by_cases q2:fixChk ds.length ps≠0
 ·rw [if_pos q2]
  have e1:(fixChk ds.length ps != 0)=true:=by simpa using q2
  clear q2
  generalize fixChk ds.length ps=kk at *
  go_enter Tryz.func30,Tryz.ntmps30
  go_upto_region 1 with fail
  rw [<- HWE.out]
  go_wp2_with (first
   | (go_at_call 11;(with_reducible refine CL.out.mono ?_);rintro e W1 ⟨rfl,b1⟩;have B1:=hD b1;clear b1)
   | (go_at_call 24;(with_reducible refine (CF.out _ B1.out).mono ?_);rintro e W2 ⟨rfl,b2⟩;have B2:=hD (bT B1.out b2);clear b2))
  go_ret
  exact ⟨rfl,bT B0.out B2.out⟩
 rw [if_neg q2]
 have q2':fixChk ds.length ps=0:=Decidable.not_not.1 q2
 rw [q2'] at CF
 clear q2 q2'
 by_cases q3:64<vars.length
 ·rw [if_pos (Or.inl q3)]
  go_enter Tryz.func30,Tryz.ntmps30
  go_upto_region 1 with fail
  rw [<- HWE.out]
  go_wp2_with (first
   | (go_at_call 11;(with_reducible refine CL.out.mono ?_);rintro e W1 ⟨rfl,b1⟩;have B1:=hD b1;clear b1)
   | (go_at_call 24;(with_reducible refine (CF.out _ B1.out).mono ?_);rintro e W2 ⟨rfl,b2⟩;have B2:=hD (bT B1.out b2);clear b2))
  go_ret
  exact ⟨rfl,bT B0.out B2.out⟩
 obtain ⟨R,hR⟩:∃ R:Int,R=if 64<vars.length\/vars.any (labOdd ds.length)=true then 160 else if most<1\/1000<most\/nodes<1\/10000<nodes then 1 else 0:=⟨_,rfl⟩
 rw [<- hR]
 have HR:=hD hR
 clear hR
 go_enter Tryz.func30,Tryz.ntmps30
 go_upto_region 1 with fail
 rw [<- HWE.out]
 go_wp2_with (first
  | (go_at_call 11;(with_reducible refine CL.out.mono ?_);rintro e W1 ⟨rfl,b1⟩;have B1:=hD b1;clear b1)
  | (go_at_call 24;(with_reducible refine (CF.out _ B1.out).mono ?_);rintro e W2 ⟨rfl,b2⟩;have B2:=hD (bT B1.out b2);clear b2))
 have HV2:=hD (HV.out.below (bT B0.out B2.out))
 have BI2:=hD (bT B0.out B2.out)
 go_loopw [14] (fun s wr=>∃ k:Nat,k<=vars.length/\s=.int .i64 k/\Hid (wr=W2)/\Hid ((vars.take k).any (labOdd ds.length)=false)) (fun s _=>vars.length - (intOf s).toNat)
 case atStart=>exact ⟨0,by omega,rfl,rfl,hD (by simp)⟩
 case round =>
  obtain ⟨k,hk,rfl,HE,HN⟩:=hrel
  have HV3:Hid (IsAt wr (.slice a2 vars.length c2) vars):=by show IsAt _ _ _;rw [HE.out];exact HV2.out
  have BI3:Hid (Below w.heap.size w wr):=by show Below _ _ _;rw [HE.out];exact BI2.out
  by_cases hlt:k<vars.length
  ·obtain ⟨b,off,rfl,_,_,hcell⟩:=IsAt.getR HV3.out k hlt
   have j1:(k:Int)<vars.length:=by omega
   have hwi:∀ z:Int,(decide (0<=z)&&decide (z<=(ds.length:Int) - 1))=!labOdd ds.length z:=fun z=>by
    unfold labOdd
    rw [Bool.eq_iff_iff]
    simp
    omega
   obtain ⟨z,hz⟩:∃ z,z=vars[k]:=⟨_,rfl⟩
   rw [<- hz] at hcell
   have CW:Hid (Calls Tryz.prog 25 #[.int .i64 z,.int .i64 0,.int .i64 ((ds.length:Int) - 1)] wr fun e w'=>e=.returned (.bool (!labOdd ds.length z))/\wr=w'):=by rw [<- hwi z];exact within19_any z 0 _ wr
   have ew:IntKind.i64.wrap ((ds.length:Int) - 1)=(ds.length:Int) - 1:=wrap_small (by omega)
   clear hwi
   cases ho:labOdd ds.length z with
   | true =>
    rw [ho] at CW
    have HA:Hid (vars.any (labOdd ds.length)=true):=by
     show _=_
     rw [List.any_eq_true]
     exact ⟨z,by rw [hz];exact List.getElem_mem hlt,ho⟩
    clear hz ho
    go_wp2_with (go_at_call 25;(with_reducible refine CW.out.mono ?_);rintro e w' ⟨rfl,rfl⟩)
    go_ret
    exact ⟨ret_int (by rw [HR.out,if_pos (Or.inr HA.out)]),BI3.out⟩
   | false =>
    rw [ho] at CW
    have HF:=hD (any_take_step (labOdd ds.length) vars k hlt HN.out (by rw [<- hz];exact ho))
    clear hz ho
    go_wp2_with (go_at_call 25;(with_reducible refine CW.out.mono ?_);rintro e w' ⟨rfl,rfl⟩)
    exact ⟨⟨k+1,by omega,by go_num,HE,HF⟩,by simp [intOf];omega⟩
  ·have HA:Hid (vars.any (labOdd ds.length)=false):=by have:=HN.out;rwa [List.take_of_length_le (by omega)] at this
   have HR2:Hid (R=if most<1\/1000<most\/nodes<1\/10000<nodes then 1 else 0):=by show _=_;rw [HR.out,if_neg (by rw [HA.out];simp;omega)]
   have CW:Hid (∀ z h:Int,Calls Tryz.prog 25 #[.int .i64 z,.int .i64 1,.int .i64 h] wr fun e w'=>e=.returned (.bool (decide (1<=z)&&decide (z<=h)))/\wr=w'):=fun z h=>within19_any z 1 h wr
   have e1:=hD (show most<1\/1000<most\/nodes<1\/10000<nodes↔(!(decide (1<=most)&&decide (most<=1000))||!(decide (1<=nodes)&&decide (nodes<=10000)))=true by simp;omega)
   generalize hb1:(decide (1<=most)&&decide (most<=1000))=b1 at *
   generalize hb2:(decide (1<=nodes)&&decide (nodes<=10000))=b2 at *
   have C1:Hid (Calls Tryz.prog 25 #[.int .i64 most,.int .i64 1,.int .i64 1000] wr fun e w'=>e=.returned (.bool b1)/\wr=w'):=by rw [<- hb1];exact CW.out most 1000
   have C2:Hid (Calls Tryz.prog 25 #[.int .i64 nodes,.int .i64 1,.int .i64 10000] wr fun e w'=>e=.returned (.bool b2)/\wr=w'):=by rw [<- hb2];exact CW.out nodes 10000
   clear hb1 hb2 CW
   cases b1 <;> cases b2 <;>
   ·go_wp2_with (first
     | (go_at_call 25;(with_reducible refine C1.out.mono ?_);rintro e w' ⟨rfl,rfl⟩)
     | (go_at_call 25;(with_reducible refine C2.out.mono ?_);rintro e w' ⟨rfl,rfl⟩))
    go_ret
    first
     | exact ⟨ret_int (by rw [HR2.out,if_pos (e1.out.2 rfl)]),BI3.out⟩
     | exact ⟨ret_int (by rw [HR2.out,if_neg (fun h=>by have:=e1.out.1 h;cases this)]),BI3.out⟩
def SolG (E:Int) (L:List (List Int)) (w:World) (e:Ending) (w':World):Prop :=
 ∃ ao cap,e=.returned (.tuple #[.slice ao L.length cap,.int .i64 E])/\LsAt w' (.slice ao L.length cap) L/\Below w.heap.size w w'
def solE (r:List (List Int)×Nat×Bool):Int:=if r.2.2=true then 34 else 0
def solL (r:List (List Int)×Nat×Bool):List (List Int):=if r.2.2=true then [] else r.1
theorem SolveR.g {r:List (List Int)×Nat×Bool} {w w':World} {e:Ending} (h:SolveR r w e w'):SolG (solE r) (solL r) w e w':=by
 obtain ⟨hb,⟨ho,he⟩ | ⟨ho,ao,cap,he,hl⟩⟩:=h
 ·unfold solE solL
  rw [if_pos ho,if_pos ho]
  exact ⟨none,0,he,LsAt.nil,hb⟩
 ·unfold solE solL
  rw [if_neg (by rw [ho];decide),if_neg (by rw [ho];decide)]
  exact ⟨ao,cap,he,hl.at,hb⟩
theorem refSolve_bad (vds vps vv vw:Value) (sel ord br:Int) (ds:Ds) (ps:List PL) (vars ws:List Int) (most nodes:Int) (w:World) (hd:DsAt w vds ds) (hp:PsAt w vps ps) (hv:IsAt w vv vars) (hw:IsAt w vw ws)
  (hok:∀ p∈ps,p.ok) (hdl:ds.length<=4096) (hbad:begChk sel ord br ws.length ds.length ps vars most nodes≠0) :
  Calls Tryz.prog 17 #[vds,vps,vv,.agg #[.int .i64 sel,.int .i64 ord,.int .i64 br,vw],.int .i64 most,.int .i64 nodes] w (SolG (begChk sel ord br ws.length ds.length ps vars most nodes) [] w):=by
 obtain ⟨a0,c0,rfl,_⟩:=hd.shape
 obtain ⟨a1,c1,rfl,_⟩:=hp.shape
 obtain ⟨a2,c2,rfl,_⟩:=hv.shape'
 obtain ⟨a3,c3,rfl,_⟩:=hw.shape'
 have hz0:=boxZ w (.int .i64 sel) (.int .i64 ord) (.int .i64 br) (.slice a3 ws.length c3) 28
 have CW:=hD (wrong_c _ _ _ _ sel ord br ds ps vars ws most nodes _ (hd.below hz0) (hp.below hz0) (hv.below hz0) (hw.below hz0) hok hdl)
 have hx0:=BoxL.mk' w #[.int .i64 sel,.int .i64 ord,.int .i64 br,.slice a3 ws.length c3] 28
 obtain ⟨l0,_⟩:=hx0.get 0 rfl
 obtain ⟨l1,_⟩:=hx0.get 1 rfl
 obtain ⟨l2,_⟩:=hx0.get 2 rfl
 obtain ⟨l3,_⟩:=hx0.get 3 rfl
 have HZ:=hD hz0
 have hne:(begChk sel ord br ws.length ds.length ps vars most nodes != 0)=true:=by simpa using hbad
 clear hd hp hv hw hz0 hx0 hbad
 generalize begChk sel ord br ws.length ds.length ps vars most nodes=kk at *
 go_enter Tryz.func17,Tryz.ntmps17
 go_wp2_with (go_at_call 30;(with_reducible refine CW.out.mono ?_);rintro e W1 ⟨rfl,b1⟩;have B1:=hD (bT HZ.out b1);clear b1)
 go_ret2
 exact ⟨none,0,rfl,LsAt.nil,B1.out⟩
theorem search_c (vd vps vv vw:Value) (o:SOpt) (D:Ds) (ps:List PL) (vars:List Int) (most nodes:Nat) (W1:World) (hd:DsAt W1 vd D) (hp:PsAt W1 vps ps) (hv:IsAt W1 vv vars) (hw:IsAt W1 vw o.ws)
  (hin:FixIn D ps) (hlc:labChk o.sel o.ord o.br o.ws.length=0) (hvl:vars.length<=64) (hvi:∀ v∈vars,0<=v/\v.toNat<D.length) (h2:most<=1000) (h4:nodes<=10000) (T:TypeId) :
  Calls Tryz.prog 31 #[.pointer (some ⟨W1.heap.size,0,none⟩),vd] (W1.alloc (.cells #[vps,vv,.int .i64 o.sel,.int .i64 o.ord,.int .i64 o.br,vw,.int .i64 most,.int .i64 nodes,.slice none 0 0,.bool false] T))
   fun e W'=>(∃ v,e=.returned v)/\∃ (L:List (List Int)) (n:Nat) (ov:Bool) (ao:Option Addr) (cap:Nat),findR ps vars o most nodes [D]=(L,n,ov)/\NdW W1.heap.size vps vv o vw most W' n ov (.slice ao L.length cap) L/\Below W1.heap.size W1 W':=by
 obtain ⟨hsel,hord,hbr⟩:=labChk_sound hlc
 have hb1:Below W1.heap.size W1 (W1.alloc (.cells #[vps,vv,.int .i64 o.sel,.int .i64 o.ord,.int .i64 o.br,vw,.int .i64 most,.int .i64 nodes,.slice none 0 0,.bool false] T)):=bA _
 refine (node_all W1 W1.heap.size most D.length vps vv vw o ps vars ⟨hp,hv,hw,rN _,hsel,hord,hbr,hvl,hvi,h2⟩ nodes (by omega) _ vd (.slice none 0 0) D [] hb1 (NdW.made W1 _ _ o _ most nodes _) (DsQ.of_input hd hb1 (fun b hb=>⟨by omega,by simp [Value.ownBlock]⟩)) hin rfl (Nat.zero_le _)).mono ?_
 rintro e W' ⟨he,L,n,ov,vo,hf,hn,ha,_⟩
 rw [List.nil_append] at hn
 obtain ⟨ao,cap,rfl,_⟩:=hn.out.shape
 exact ⟨he,L,n,ov,ao,cap,hf,hn,hb1.trans (ha.below hb1.size (fun b hb=>by
  rcases hb with e | e
  ·omega
  ·simp [Value.ownBlock] at e))⟩
theorem refSolve_ok (vds vps vv vw:Value) (o:SOpt) (ds:Ds) (ps:List PL) (vars:List Int) (most nodes:Nat) (w:World) (hd:DsAt w vds ds) (hp:PsAt w vps ps) (hv:IsAt w vv vars) (hw:IsAt w vw o.ws)
  (hin:FixIn ds ps) (hgood:begChk o.sel o.ord o.br o.ws.length ds.length ps vars most nodes=0) (hlc:labChk o.sel o.ord o.br o.ws.length=0) (hvl:vars.length<=64) (hvi:∀ v∈vars,0<=v/\v.toNat<ds.length) (h2:most<=1000) (h4:nodes<=10000) :
  Calls Tryz.prog 17 #[vds,vps,vv,.agg #[.int .i64 o.sel,.int .i64 o.ord,.int .i64 o.br,vw],.int .i64 most,.int .i64 nodes] w (SolG (solE (findR ps vars o most nodes [ds])) (solL (findR ps vars o most nodes [ds])) w):=by
 obtain ⟨a0,c0,rfl,_⟩:=hd.shape
 obtain ⟨a1,c1,rfl,_⟩:=hp.shape
 obtain ⟨a2,c2,rfl,_⟩:=hv.shape'
 obtain ⟨a3,c3,rfl,_⟩:=hw.shape'
 have hz0:=boxZ w (.int .i64 o.sel) (.int .i64 o.ord) (.int .i64 o.br) (.slice a3 o.ws.length c3) 28
 have CW0:=wrong_c _ _ _ _ o.sel o.ord o.br ds ps vars o.ws most nodes _ (hd.below hz0) (hp.below hz0) (hv.below hz0) (hw.below hz0) hin.ok (by have:=hin.n;omega)
 rw [hgood] at CW0
 have CW:=hD CW0
 have hx0:=BoxL.mk' w #[.int .i64 o.sel,.int .i64 o.ord,.int .i64 o.br,.slice a3 o.ws.length c3] 28
 obtain ⟨l0,_⟩:=hx0.get 0 rfl
 obtain ⟨l1,_⟩:=hx0.get 1 rfl
 obtain ⟨l2,_⟩:=hx0.get 2 rfl
 obtain ⟨l3,_⟩:=hx0.get 3 rfl
 have HX0:=hD hx0
 have HZ:=hD hz0
 have CN:Hid (∀ W1,Below w.heap.size w W1->Calls Tryz.prog 31 #[.pointer (some ⟨W1.heap.size,0,none⟩),.slice a0 ds.length c0] (W1.alloc (.cells #[.slice a1 ps.length c1,.slice a2 vars.length c2,.int .i64 o.sel,.int .i64 o.ord,.int .i64 o.br,.slice a3 o.ws.length c3,.int .i64 most,.int .i64 nodes,.slice none 0 0,.bool false] 71))
   fun e W'=>(∃ v,e=.returned v)/\∃ (L:List (List Int)) (n:Nat) (ov:Bool) (ao:Option Addr) (cap:Nat),findR ps vars o most nodes [ds]=(L,n,ov)/\NdW W1.heap.size (.slice a1 ps.length c1) (.slice a2 vars.length c2) o (.slice a3 o.ws.length c3) most W' n ov (.slice ao L.length cap) L/\Below W1.heap.size W1 W'):=fun W1 h =>
  search_c _ _ _ _ o ds ps vars most nodes W1 (hd.below h) (hp.below h) (hv.below h) (hw.below h) hin hlc hvl hvi h2 h4 _
 clear hd hp hv hw hz0 hx0 CW0 hin hgood hlc hvi
 generalize findR ps vars o most nodes [ds]=R at *
 have HC:Hid (∀ W,Below (w.heap.size+1) (w.alloc (.cells #[.int .i64 o.sel,.int .i64 o.ord,.int .i64 o.br,.slice a3 o.ws.length c3] 28)) W->W.cell? ⟨w.heap.size,0,none⟩=some (.int .i64 o.sel)/\W.cell? ⟨w.heap.size,1,none⟩=some (.int .i64 o.ord)/\W.cell? ⟨w.heap.size,2,none⟩=some (.int .i64 o.br)/\W.cell? ⟨w.heap.size,3,none⟩=some (.slice a3 o.ws.length c3)):=fun W h=>by
  have e:=HX0.out.below (w':=W) (by simpa using h) (by simp)
  exact ⟨(e.get 0 rfl).1,(e.get 1 rfl).1,(e.get 2 rfl).1,(e.get 3 rfl).1⟩
 clear HX0
 go_enter Tryz.func17,Tryz.ntmps17
 go_upto_region 6 with (first
  | (go_at_call 30;(with_reducible refine CW.out.mono ?_);rintro e W1 ⟨rfl,b1⟩;have B1:=hD (bT HZ.out b1);obtain ⟨m0,m1,m2,m3⟩:=HC.out W1 (b1.mono (by simp));clear b1)
  | (go_at_call 31;(with_reducible refine (CN.out _ B1.out).mono ?_);rintro e W2 ⟨⟨rv,rfl⟩,L,n,ov,ao,cap,hf,hn,b2⟩;have HF:=hD hf;have HN:=hD hn;have B2:=hD (bT B1.out b2);clear hf hn b2))
 have x9:=HN.out.c9
 have x8:=HN.out.c8
 clear CN CW HC
 have HR:=HF.out
 subst HR
 cases ov with
 | true =>
  go_wp2
  go_ret2
  exact ⟨none,0,rfl,LsAt.nil,B2.out⟩
 | false =>
  go_wp2
  go_ret2
  exact ⟨_,_,rfl,HN.out.out.from.at,B2.out⟩
theorem solve_bad (vds vps vv vw:Value) (sel ord br:Int) (ds:Ds) (ps:List PL) (vars ws:List Int) (most nodes:Int) (w:World) (hd:DsAt w vds ds) (hp:PsAt w vps ps) (hv:IsAt w vv vars) (hw:IsAt w vw ws)
  (hok:∀ p∈ps,p.ok) (hvl:vars.length<=4096) (hbad:begChk sel ord br ws.length ds.length ps vars most nodes≠0) :
  Calls Tryz.prog 13 #[vds,vps,vv,.agg #[.int .i64 sel,.int .i64 ord,.int .i64 br,vw],.int .i64 most,.int .i64 nodes] w (SolG (begChk sel ord br ws.length ds.length ps vars most nodes) [] w):=by
 obtain ⟨a0,c0,rfl,_⟩:=hd.shape
 obtain ⟨a1,c1,rfl,_⟩:=hp.shape
 obtain ⟨a2,c2,rfl,_⟩:=hv.shape'
 obtain ⟨a3,c3,rfl,_⟩:=hw.shape'
 obtain ⟨W0,hW0⟩:∃ W0,W0=(w.alloc (.cells #[.int .i64 sel,.int .i64 ord,.int .i64 br,.slice a3 ws.length c3] 28)).alloc (.cells #[.int .i64 most] 3):=⟨_,rfl⟩
 have hz0:=boxZ w (.int .i64 sel) (.int .i64 ord) (.int .i64 br) (.slice a3 ws.length c3) 28
 have B0:Hid (Below w.heap.size w W0):=by rw [hW0];exact bL hz0 _
 have hx0:BoxL W0 w.heap.size [.int .i64 sel,.int .i64 ord,.int .i64 br,.slice a3 ws.length c3]:=by
  rw [hW0]
  exact (BoxL.mk' w #[.int .i64 sel,.int .i64 ord,.int .i64 br,.slice a3 ws.length c3] 28).below (bA _) (by simp)
 have hx1:W0.cell? ⟨w.heap.size+1,0,none⟩=some (.int .i64 most):=by
  have h:=((BoxL.mk' (w.alloc (.cells #[.int .i64 sel,.int .i64 ord,.int .i64 br,.slice a3 ws.length c3] 28)) #[.int .i64 most] 3).get 0 rfl).1
  rw [show (w.alloc (.cells #[.int .i64 sel,.int .i64 ord,.int .i64 br,.slice a3 ws.length c3] 28)).heap.size=w.heap.size+1 by simp,<- hW0] at h
  exact h
 have CB:=hD (begin_bad (.slice a0 ds.length c0) (.slice a1 ps.length c1) (.slice a2 vars.length c2) (.slice a3 ws.length c3) sel ord br ds ps vars ws most nodes W0 (hd.below B0.out) (hp.below B0.out) (hv.below B0.out) (hw.below B0.out) hok hvl hbad)
 obtain ⟨l0,_⟩:=hx0.get 0 rfl
 obtain ⟨l1,_⟩:=hx0.get 1 rfl
 obtain ⟨l2,_⟩:=hx0.get 2 rfl
 obtain ⟨l3,_⟩:=hx0.get 3 rfl
 have HWE:=hD hW0
 have hne:(begChk sel ord br ws.length ds.length ps vars most nodes != 0)=true:=by simpa using hbad
 clear hd hp hv hw hW0 hz0 hx0 hbad
 generalize begChk sel ord br ws.length ds.length ps vars most nodes=kk at *
 go_enter Tryz.func13,Tryz.ntmps13
 go_upto_region 1 with fail
 rw [<- HWE.out]
 go_wp2_with (go_at_call 26;(with_reducible refine CB.out.mono ?_);rintro e W1 ⟨rfl,b1⟩;have B1:=hD (bT B0.out b1);clear b1)
 go_ret2
 exact ⟨none,0,rfl,LsAt.nil,B1.out⟩
theorem findR_wide (ps:List PL) (vars:List Int) (o:SOpt):∀ (k m:Nat) (st:List Ds),∀ z∈(findR ps vars o m k st).1,z.length=vars.length
 | k,0,st=>by cases k <;> cases st <;> simp [findR]
 | k,m+1,[]=>by cases k <;> simp [findR]
 | 0,m+1,D::st=>by simp [findR]
 | k+1,m+1,D::st=>by
  rw [findR]
  cases theFix ps D with
  | none=>exact findR_wide ps vars o k (m+1) st
  | some now =>
   dsimp only
   cases chooseL now vars o.sel o.ws vars.length with
   | none =>
    dsimp only
    intro z hz
    rcases List.mem_cons.1 hz with rfl | hz
    ·simp
    ·exact findR_wide ps vars o k m st z hz
   | some i=>exact findR_wide ps vars o k (m+1) _
theorem many19_ok {ds:Ds} {ps:List PL} (h:many19 ds ps=false):∀ p∈ps,p.ok:=fun p hp=>by
 unfold many19 at h
 simp only [Bool.or_eq_false_iff] at h
 have h1:=h.1.2
 rw [List.any_eq_false] at h1
 have h2:=h1 p hp
 unfold bigP19 at h2
 simp at h2
 unfold PL.ok
 omega
theorem begChk_zero {sel ord br most nodes:Int} {nw n:Nat} {ps:List PL} {vars:List Int} (h:begChk sel ord br nw n ps vars most nodes=0) :
  labChk sel ord br nw=0/\fixChk n ps=0/\vars.length<=64/\(∀ v∈vars,0<=v/\v.toNat<n)/\1<=most/\most<=1000/\1<=nodes/\nodes<=10000:=by
 unfold begChk at h
 by_cases h1:labChk sel ord br nw≠0
 ·rw [if_pos h1] at h;exact absurd h h1
 rw [if_neg h1] at h
 by_cases h2:fixChk n ps≠0
 ·rw [if_pos h2] at h;exact absurd h h2
 rw [if_neg h2] at h
 by_cases h3:64<vars.length\/vars.any (labOdd n)=true
 ·rw [if_pos h3] at h;cases h
 rw [if_neg h3] at h
 by_cases h4:most<1\/1000<most\/nodes<1\/10000<nodes
 ·rw [if_pos h4] at h;cases h
 have h5:vars.any (labOdd n)=false:=by
  cases hq:vars.any (labOdd n)
  ·rfl
  ·exact absurd (Or.inr hq) h3
 rw [List.any_eq_false] at h5
 refine ⟨Decidable.not_not.1 h1,Decidable.not_not.1 h2,by omega,fun v hv=>?_,by omega,by omega,by omega,by omega⟩
 have:=h5 v hv
 unfold labOdd at this
 simp at this
 omega
theorem solve_both (vds vps vv vw:Value) (o:SOpt) (ds:Ds) (ps:List PL) (vars:List Int) (most nodes:Int) (w:World) (hd:DsAt w vds ds) (hp:PsAt w vps ps) (hv:IsAt w vv vars) (hw:IsAt w vw o.ws) (hm:many19 ds ps=false) (hvl:vars.length<=8) :
  ∃ (E:Int) (L:List (List Int)),L.length<=4096/\(∀ z∈L,z.length<=4096)/\∀ W,Below w.heap.size w W ->
   Calls Tryz.prog 13 #[vds,vps,vv,.agg #[.int .i64 o.sel,.int .i64 o.ord,.int .i64 o.br,vw],.int .i64 most,.int .i64 nodes] W (SolG E L W) /\
   Calls Tryz.prog 17 #[vds,vps,vv,.agg #[.int .i64 o.sel,.int .i64 o.ord,.int .i64 o.br,vw],.int .i64 most,.int .i64 nodes] W (SolG E L W):=by
 have hok:=many19_ok hm
 have hdl:ds.length<=4:=(many19_17 hm).2.1
 by_cases hb:begChk o.sel o.ord o.br o.ws.length ds.length ps vars most nodes=0
 ·obtain ⟨h1,h2,h3,h4,h5,h6,h7,h8⟩:=begChk_zero hb
  obtain ⟨m,rfl⟩:=Int.eq_ofNat_of_zero_le (show 0<=most by omega)
  obtain ⟨k,rfl⟩:=Int.eq_ofNat_of_zero_le (show 0<=nodes by omega)
  have hr:right19 ds ps=true:=by unfold right19;rw [hm,h2];rfl
  have hin:=(right19_ok hr).1
  refine ⟨solE (findR ps vars o m k [ds]),solL (findR ps vars o m k [ds]),?_,fun z hz=>?_,fun W h=>⟨?_,?_⟩⟩
  ·unfold solL
   split
   ·simp
   ·have:=findR_le ps vars o k m [ds];omega
  ·unfold solL at hz
   split at hz
   ·cases hz
   ·rw [findR_wide ps vars o k m [ds] z hz];omega
  ·exact (solve_ok vds vps vv vw o ds ps vars m k W (hd.below h) (hp.below h) (hv.below h) (hw.below h) hin h1 h2 h3 h4 (by omega) (by omega) (by omega) (by omega)).mono fun _ _ h=>h.g
  ·exact refSolve_ok vds vps vv vw o ds ps vars m k W (hd.below h) (hp.below h) (hv.below h) (hw.below h) hin hb h1 h3 h4 (by omega) (by omega)
 ·refine ⟨begChk o.sel o.ord o.br o.ws.length ds.length ps vars most nodes,[],by simp,fun z hz=>(by cases hz),fun W h=>⟨?_,?_⟩⟩
  ·exact solve_bad vds vps vv vw o.sel o.ord o.br ds ps vars o.ws most nodes W (hd.below h) (hp.below h) (hv.below h) (hw.below h) hok (by omega) hb
  ·exact refSolve_bad vds vps vv vw o.sel o.ord o.br ds ps vars o.ws most nodes W (hd.below h) (hp.below h) (hv.below h) (hw.below h) hok (by omega) hb
set_option maxRecDepth 1000000
set_option maxHeartbeats 6400000
theorem labelSolves_any (vds vps vv v1:Value) (o:SOpt) (ds:Ds) (ps:List PL) (vars:List Int) (most nodes:Int) (w:World) (hd:DsAt w vds ds) (hp:PsAt w vps ps) (hv:IsAt w vv vars) (hw1:IsAt w v1 o.ws) :
  Calls Tryz.prog 4 #[.agg #[vds,vps],vv,.agg #[.int .i64 o.sel,.int .i64 o.ord,.int .i64 o.br,v1],.int .i64 most,.int .i64 nodes] w fun e w'=>e=.returned (.bool true)/\Below w.heap.size w w':=by
 obtain ⟨a0,c0,rfl,_⟩:=hd.shape
 obtain ⟨a1,c1,rfl,_⟩:=hp.shape
 obtain ⟨a3,c3,rfl,_⟩:=hv.shape'
 obtain ⟨a2,c2,rfl,_⟩:=hw1.shape'
 obtain ⟨W0,hW0⟩:∃ W0,W0=(w.alloc (.cells #[.slice a0 ds.length c0,.slice a1 ps.length c1] 25)).alloc (.cells #[.int .i64 o.sel,.int .i64 o.ord,.int .i64 o.br,.slice a2 o.ws.length c2] 28):=⟨_,rfl⟩
 have hb0:Below w.heap.size w W0:=by rw [hW0];exact ((Below.refl _ w).alloc (rN _) _).alloc (by simp) _
 have hs0:W0.heap.size=w.heap.size+2:=by rw [hW0];simp
 have hL1:BoxL W0 w.heap.size [.slice a0 ds.length c0,.slice a1 ps.length c1]:=by
  rw [hW0]
  exact (BoxL.mk' w #[.slice a0 ds.length c0,.slice a1 ps.length c1] _).below (bA _) (by simp)
 have hL2:BoxL W0 (w.heap.size+1) [.int .i64 o.sel,.int .i64 o.ord,.int .i64 o.br,.slice a2 o.ws.length c2]:=by
  have h:=BoxL.mk' (w.alloc (.cells #[.slice a0 ds.length c0,.slice a1 ps.length c1] 25)) #[.int .i64 o.sel,.int .i64 o.ord,.int .i64 o.br,.slice a2 o.ws.length c2] 28
  rw [show (w.alloc (.cells #[.slice a0 ds.length c0,.slice a1 ps.length c1] 25)).heap.size=w.heap.size+1 by simp] at h
  rw [hW0];exact h
 have HB0:=hD hb0
 have HL1:=hD hL1
 have HL2:=hD hL2
 have HW:=hD hW0.symm
 have HD:=hD hd
 have HP:=hD hp
 have HV:=hD hv
 have HO:=hD hw1
 clear hb0 hL1 hL2 hW0 hd hp hv hw1
 have HC:Hid (∀ W,Below W0.heap.size W0 W->W.cell? ⟨w.heap.size,0,none⟩=some (.slice a0 ds.length c0)/\W.cell? ⟨w.heap.size,1,none⟩=some (.slice a1 ps.length c1) /\
   W.cell? ⟨w.heap.size+1,0,none⟩=some (.int .i64 o.sel)/\W.cell? ⟨w.heap.size+1,1,none⟩=some (.int .i64 o.ord)/\W.cell? ⟨w.heap.size+1,2,none⟩=some (.int .i64 o.br)/\W.cell? ⟨w.heap.size+1,3,none⟩=some (.slice a2 o.ws.length c2)):=fun W h =>
  have e1:=HL1.out.below h (by omega)
  have e2:=HL2.out.below h (by omega)
  ⟨(e1.get 0 rfl).1,(e1.get 1 rfl).1,(e2.get 0 rfl).1,(e2.get 1 rfl).1,(e2.get 2 rfl).1,(e2.get 3 rfl).1⟩
 obtain ⟨z0,z1,z2,z3,z4,z5⟩:=HC.out W0 (Below.refl _ _)
 have CR:=hD (many19_c _ _ ds ps W0 (HD.out.below HB0.out) (HP.out.below HB0.out))
 by_cases hn:1000<nodes/\nodes<=10000
 ·obtain ⟨n1,n2⟩:=hn
  go_enter Tryz.func4,Tryz.ntmps4
  go_upto_region 1 with fail
  rw [HW.out]
  go_wp2
  go_ret
  exact ⟨rfl,HB0.out⟩
 have hn':nodes<=1000\/10000<nodes:=by omega
 clear hn
 rcases hn' with hn | hn
 all_goals
  cases hm:many19 ds ps with
  | true =>
   rw [hm] at CR
   clear hm
   go_enter Tryz.func4,Tryz.ntmps4
   go_upto_region 1 with fail
   rw [HW.out]
   go_wp2_with (go_at_call 16;(with_reducible refine CR.out.mono ?_);rintro e W1 ⟨rfl,bb⟩;have B1:=hD (bT HB0.out bb);clear bb)
   go_ret
   exact ⟨rfl,B1.out⟩
  | false =>
   rw [hm] at CR
   have HM:=hD hm
   clear hm
   by_cases h1:8<vars.length
   ·go_enter Tryz.func4,Tryz.ntmps4
    go_upto_region 1 with fail
    rw [HW.out]
    go_wp2_with (go_at_call 16;(with_reducible refine CR.out.mono ?_);rintro e W1 ⟨rfl,bb⟩;have B1:=hD (bT HB0.out bb);clear bb)
    go_ret
    exact ⟨rfl,B1.out⟩
   by_cases h2:100<o.ws.length
   ·go_enter Tryz.func4,Tryz.ntmps4
    go_upto_region 1 with fail
    rw [HW.out]
    go_wp2_with (go_at_call 16;(with_reducible refine CR.out.mono ?_);rintro e W1 ⟨rfl,bb⟩;have B1:=hD (bT HB0.out bb);obtain ⟨y0,y1,y2,y3,y4,y5⟩:=HC.out _ bb;clear bb)
    go_ret
    exact ⟨rfl,B1.out⟩
   obtain ⟨E,L,hL1,hL2,hC⟩:=solve_both (.slice a0 ds.length c0) (.slice a1 ps.length c1) (.slice a3 vars.length c3) (.slice a2 o.ws.length c2) o ds ps vars most nodes w HD.out HP.out HV.out HO.out HM.out (by omega)
   have CP:Hid (∀ W,Below w.heap.size w W->Calls Tryz.prog 13 #[.slice a0 ds.length c0,.slice a1 ps.length c1,.slice a3 vars.length c3,.agg #[.int .i64 o.sel,.int .i64 o.ord,.int .i64 o.br,.slice a2 o.ws.length c2],.int .i64 most,.int .i64 nodes] W (SolG E L W)):=fun W h=>(hC W h).1
   have CF:Hid (∀ W,Below w.heap.size w W->Calls Tryz.prog 17 #[.slice a0 ds.length c0,.slice a1 ps.length c1,.slice a3 vars.length c3,.agg #[.int .i64 o.sel,.int .i64 o.ord,.int .i64 o.br,.slice a2 o.ws.length c2],.int .i64 most,.int .i64 nodes] W (SolG E L W)):=fun W h=>(hC W h).2
   have HSM:Hid (∀ W va vb,LsAt W va L->LsAt W vb L->Calls Tryz.prog 18 #[va,vb] W fun e w'=>e=.returned (.bool true)/\Below W.heap.size W w'):=fun W va vb ha hb=>by
    have:=sames_c va vb L L W ha hb hL1 hL2
    simpa using this
   have hEE:(E==E)=true:=by simp
   clear hC
   go_enter Tryz.func4,Tryz.ntmps4
   go_upto_region 1 with fail
   rw [HW.out]
   go_wp2_with (first
    | (go_at_call 16;(with_reducible refine CR.out.mono ?_);rintro e W1 ⟨rfl,bb⟩;have P1:=hD bb;have B1:=hD (bT HB0.out bb);obtain ⟨y0,y1,y2,y3,y4,y5⟩:=HC.out _ bb;clear bb)
    | (go_at_call 13;(with_reducible refine (CP.out _ B1.out).mono ?_);rintro e W2 ⟨ar,cr,rfl,l2,bb⟩;have P2:=hD (bT P1.out bb);have B2:=hD (bT B1.out bb);have L2:=hD l2;obtain ⟨x0,x1,x2,x3,x4,x5⟩:=HC.out _ P2.out;clear bb l2)
    | (go_at_call 17;(with_reducible refine (CF.out _ B2.out).mono ?_);rintro e W3 ⟨ar3,cr3,rfl,l3,bb⟩;have B3:=hD (bT B2.out bb);have L3:=hD l3;have L2':=hD (L2.out.below bb);clear bb l3)
    | (go_at_call 18;(with_reducible refine (HSM.out _ _ _ L2'.out L3.out).mono ?_);rintro e W4 ⟨rfl,bb⟩;have B4:=hD (bT B3.out bb);clear bb))
   go_ret
   exact ⟨rfl,B4.out⟩
end
end Go.Proofs.YtaekdgikgbdnnaaGreat
