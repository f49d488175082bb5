/-
  The document's own test of a search's start, walked.
  Solve of both, walked: what is found, or what is wrong.
  PLAIN LAWS of the search for the least: both ways to end it come to the same; no program.
  label.Minimize: what its loop keeps.
-/
import Derived.Test.YtaekdgikgbdnnaaGreatKref14
import Derived.Test.YtaekdgikgbdnnaaGreatKref12
namespace Go.Proofs.YtaekdgikgbdnnaaGreat
section
open Go.RowKit
set_option maxRecDepth 100000
set_option maxHeartbeats 1600000
theorem wrong_c (vds vps vv vw:Value) (sel ord br:Int) (ds:Ds) (ps:List PL) (vars ws:List Int) (most nodes:Int) (w:World) (hd:DsAt w vds ds) (hp:PsAt w vps ps) (hv:IsAt w vv vars) (hw:IsAt w vw ws)
  (hok:∀ p∈ps,p.ok) (hdl:ds.length<=4096) :
  Calls Tryz.prog 30 #[vds,vps,vv,.agg #[.int .i64 sel,.int .i64 ord,.int .i64 br,vw],.int .i64 most,.int .i64 nodes] w fun e w' =>
   e=.returned (.int .i64 (begChk sel ord br ws.length ds.length ps vars most nodes))/\Below w.heap.size w w':=by
 obtain ⟨a0,c0,rfl,_⟩:=hd.shape
 obtain ⟨a1,c1,rfl,_⟩:=hp.shape
 obtain ⟨a2,c2,rfl,_⟩:=hv.shape'
 obtain ⟨a3,c3,rfl,_⟩:=hw.shape'
 obtain ⟨W0,hW0⟩:∃ W0,W0=w.alloc (.cells #[.int .i64 sel,.int .i64 ord,.int .i64 br,.slice a3 ws.length c3] 28):=⟨_,rfl⟩
 have B0:Hid (Below w.heap.size w W0):=by rw [hW0];exact bA _
 have hB1:BoxL W0 w.heap.size [.int .i64 sel,.int .i64 ord,.int .i64 br,.slice a3 ws.length c3]:=by
  rw [hW0];exact BoxL.mk' w #[.int .i64 sel,.int .i64 ord,.int .i64 br,.slice a3 ws.length c3] 28
 have CL:=hD (refLabCheck_c sel ord br a3 ws.length c3 W0)
 have CF:Hid (∀ W,Below W0.heap.size W0 W->Calls Tryz.prog 24 #[.slice a0 ds.length c0,.slice a1 ps.length c1] W fun e w'=>e=.returned (.int .i64 (fixChk ds.length ps))/\Below W.heap.size W w'):=fun W h=>by
  have hb:=bT B0.out h
  exact refFixCheck_c (.slice a0 ds.length c0) (.slice a1 ps.length c1) ds ps W (hd.below hb) (hp.below hb) (fun j hj=>hok _ (List.getElem_mem hj))
 have HV:=hD hv
 obtain ⟨l0,_⟩:=hB1.get 0 rfl
 obtain ⟨l1,_⟩:=hB1.get 1 rfl
 obtain ⟨l2,_⟩:=hB1.get 2 rfl
 obtain ⟨l3,_⟩:=hB1.get 3 rfl
 have HWE:=hD hW0
 clear hd hp hv hw hok hW0 hB1
 unfold begChk
 by_cases q1:labChk sel ord br ws.length≠0
 ·rw [if_pos q1]
  have e1:(labChk sel ord br ws.length != 0)=true:=by simpa using q1
  clear q1
  generalize labChk sel ord br ws.length=kk at *
  go_enter Tryz.func30,Tryz.ntmps30
  go_upto_region 1 with fail
  rw [<- HWE.out]
  go_wp2_with (first
   | (go_at_call 11;(with_reducible refine CL.out.mono ?_);rintro e W1 ⟨rfl,b1⟩;have B1:=hD b1;clear b1)
   | (go_at_call 24;(with_reducible refine (CF.out _ B1.out).mono ?_);rintro e W2 ⟨rfl,b2⟩;have B2:=hD (bT B1.out b2);clear b2))
  go_ret
  exact ⟨rfl,bT B0.out B1.out⟩
 rw [if_neg q1]
 have q1':labChk sel ord br ws.length=0:=Decidable.not_not.1 q1
 rw [q1'] at CL
 clear q1 q1'
 by_cases q2:fixChk ds.length ps≠0
 ·rw [if_pos q2]
  have e1:(fixChk ds.length ps != 0)=true:=by simpa using q2
  clear q2
  generalize fixChk ds.length ps=kk at *
  go_enter Tryz.func30,Tryz.ntmps30
  go_upto_region 1 with fail
  rw [<- HWE.out]
  go_wp2_with (first
   | (go_at_call 11;(with_reducible refine CL.out.mono ?_);rintro e W1 ⟨rfl,b1⟩;have B1:=hD b1;clear b1)
   | (go_at_call 24;(with_reducible refine (CF.out _ B1.out).mono ?_);rintro e W2 ⟨rfl,b2⟩;have B2:=hD (bT B1.out b2);clear b2))
  go_ret
  exact ⟨rfl,bT B0.out B2.out⟩
 rw [if_neg q2]
 have q2':fixChk ds.length ps=0:=Decidable.not_not.1 q2
 rw [q2'] at CF
 clear q2 q2'
 by_cases q3:64<vars.length
 ·rw [if_pos (Or.inl q3)]
  go_enter Tryz.func30,Tryz.ntmps30
  go_upto_region 1 with fail
  rw [<- HWE.out]
  go_wp2_with (first
   | (go_at_call 11;(with_reducible refine CL.out.mono ?_);rintro e W1 ⟨rfl,b1⟩;have B1:=hD b1;clear b1)
   | (go_at_call 24;(with_reducible refine (CF.out _ B1.out).mono ?_);rintro e W2 ⟨rfl,b2⟩;have B2:=hD (bT B1.out b2);clear b2))
  go_ret
  exact ⟨rfl,bT B0.out B2.out⟩
 obtain ⟨R,hR⟩:∃ R:Int,R=if 64<vars.length\/vars.any (labOdd ds.length)=true then 160 else if most<1\/1000<most\/nodes<1\/10000<nodes then 1 else 0:=⟨_,rfl⟩
 rw [<- hR]
 have HR:=hD hR
 clear hR
 go_enter Tryz.func30,Tryz.ntmps30
 go_upto_region 1 with fail
 rw [<- HWE.out]
 go_wp2_with (first
  | (go_at_call 11;(with_reducible refine CL.out.mono ?_);rintro e W1 ⟨rfl,b1⟩;have B1:=hD b1;clear b1)
  | (go_at_call 24;(with_reducible refine (CF.out _ B1.out).mono ?_);rintro e W2 ⟨rfl,b2⟩;have B2:=hD (bT B1.out b2);clear b2))
 have HV2:=hD (HV.out.below (bT B0.out B2.out))
 have BI2:=hD (bT B0.out B2.out)
 go_loopw [14] (fun s wr=>∃ k:Nat,k<=vars.length/\s=.int .i64 k/\Hid (wr=W2)/\Hid ((vars.take k).any (labOdd ds.length)=false)) (fun s _=>vars.length - (intOf s).toNat)
 case atStart=>exact ⟨0,by omega,rfl,rfl,hD (by simp)⟩
 case round =>
  obtain ⟨k,hk,rfl,HE,HN⟩:=hrel
  have HV3:Hid (IsAt wr (.slice a2 vars.length c2) vars):=by show IsAt _ _ _;rw [HE.out];exact HV2.out
  have BI3:Hid (Below w.heap.size w wr):=by show Below _ _ _;rw [HE.out];exact BI2.out
  by_cases hlt:k<vars.length
  ·obtain ⟨b,off,rfl,_,_,hcell⟩:=IsAt.getR HV3.out k hlt
   have j1:(k:Int)<vars.length:=by omega
   have hwi:∀ z:Int,(decide (0<=z)&&decide (z<=(ds.length:Int) - 1))=!labOdd ds.length z:=fun z=>by
    unfold labOdd
    rw [Bool.eq_iff_iff]
    simp
    omega
   obtain ⟨z,hz⟩:∃ z,z=vars[k]:=⟨_,rfl⟩
   rw [<- hz] at hcell
   have CW:Hid (Calls Tryz.prog 25 #[.int .i64 z,.int .i64 0,.int .i64 ((ds.length:Int) - 1)] wr fun e w'=>e=.returned (.bool (!labOdd ds.length z))/\wr=w'):=by rw [<- hwi z];exact within19_any z 0 _ wr
   have ew:IntKind.i64.wrap ((ds.length:Int) - 1)=(ds.length:Int) - 1:=wrap_small (by omega)
   clear hwi
   cases ho:labOdd ds.length z with
   | true =>
    rw [ho] at CW
    have HA:Hid (vars.any (labOdd ds.length)=true):=by
     show _=_
     rw [List.any_eq_true]
     exact ⟨z,by rw [hz];exact List.getElem_mem hlt,ho⟩
    clear hz ho
    go_wp2_with (go_at_call 25;(with_reducible refine CW.out.mono ?_);rintro e w' ⟨rfl,rfl⟩)
    go_ret
    exact ⟨ret_int (by rw [HR.out,if_pos (Or.inr HA.out)]),BI3.out⟩
   | false =>
    rw [ho] at CW
    have HF:=hD (any_take_step (labOdd ds.length) vars k hlt HN.out (by rw [<- hz];exact ho))
    clear hz ho
    go_wp2_with (go_at_call 25;(with_reducible refine CW.out.mono ?_);rintro e w' ⟨rfl,rfl⟩)
    exact ⟨⟨k+1,by omega,by go_num,HE,HF⟩,by simp [intOf];omega⟩
  ·have HA:Hid (vars.any (labOdd ds.length)=false):=by have:=HN.out;rwa [List.take_of_length_le (by omega)] at this
   have HR2:Hid (R=if most<1\/1000<most\/nodes<1\/10000<nodes then 1 else 0):=by show _=_;rw [HR.out,if_neg (by rw [HA.out];simp;omega)]
   have CW:Hid (∀ z h:Int,Calls Tryz.prog 25 #[.int .i64 z,.int .i64 1,.int .i64 h] wr fun e w'=>e=.returned (.bool (decide (1<=z)&&decide (z<=h)))/\wr=w'):=fun z h=>within19_any z 1 h wr
   have e1:=hD (show most<1\/1000<most\/nodes<1\/10000<nodes↔(!(decide (1<=most)&&decide (most<=1000))||!(decide (1<=nodes)&&decide (nodes<=10000)))=true by simp;omega)
   generalize hb1:(decide (1<=most)&&decide (most<=1000))=b1 at *
   generalize hb2:(decide (1<=nodes)&&decide (nodes<=10000))=b2 at *
   have C1:Hid (Calls Tryz.prog 25 #[.int .i64 most,.int .i64 1,.int .i64 1000] wr fun e w'=>e=.returned (.bool b1)/\wr=w'):=by rw [<- hb1];exact CW.out most 1000
   have C2:Hid (Calls Tryz.prog 25 #[.int .i64 nodes,.int .i64 1,.int .i64 10000] wr fun e w'=>e=.returned (.bool b2)/\wr=w'):=by rw [<- hb2];exact CW.out nodes 10000
   clear hb1 hb2 CW
   cases b1 <;> cases b2 <;>
   ·go_wp2_with (first
     | (go_at_call 25;(with_reducible refine C1.out.mono ?_);rintro e w' ⟨rfl,rfl⟩)
     | (go_at_call 25;(with_reducible refine C2.out.mono ?_);rintro e w' ⟨rfl,rfl⟩))
    go_ret
    first
     | exact ⟨ret_int (by rw [HR2.out,if_pos (e1.out.2 rfl)]),BI3.out⟩
     | exact ⟨ret_int (by rw [HR2.out,if_neg (fun h=>by have:=e1.out.1 h;cases this)]),BI3.out⟩
def SolG (E:Int) (L:List (List Int)) (w:World) (e:Ending) (w':World):Prop :=
 ∃ ao cap,e=.returned (.tuple #[.slice ao L.length cap,.int .i64 E])/\LsAt w' (.slice ao L.length cap) L/\Below w.heap.size w w'
def solE (r:List (List Int)×Nat×Bool):Int:=if r.2.2=true then 34 else 0
def solL (r:List (List Int)×Nat×Bool):List (List Int):=if r.2.2=true then [] else r.1
theorem SolveR.g {r:List (List Int)×Nat×Bool} {w w':World} {e:Ending} (h:SolveR r w e w'):SolG (solE r) (solL r) w e w':=by
 obtain ⟨hb,⟨ho,he⟩ | ⟨ho,ao,cap,he,hl⟩⟩:=h
 ·unfold solE solL
  rw [if_pos ho,if_pos ho]
  exact ⟨none,0,he,LsAt.nil,hb⟩
 ·unfold solE solL
  rw [if_neg (by rw [ho];decide),if_neg (by rw [ho];decide)]
  exact ⟨ao,cap,he,hl.at,hb⟩
theorem refSolve_bad (vds vps vv vw:Value) (sel ord br:Int) (ds:Ds) (ps:List PL) (vars ws:List Int) (most nodes:Int) (w:World) (hd:DsAt w vds ds) (hp:PsAt w vps ps) (hv:IsAt w vv vars) (hw:IsAt w vw ws)
  (hok:∀ p∈ps,p.ok) (hdl:ds.length<=4096) (hbad:begChk sel ord br ws.length ds.length ps vars most nodes≠0) :
  Calls Tryz.prog 17 #[vds,vps,vv,.agg #[.int .i64 sel,.int .i64 ord,.int .i64 br,vw],.int .i64 most,.int .i64 nodes] w (SolG (begChk sel ord br ws.length ds.length ps vars most nodes) [] w):=by
 obtain ⟨a0,c0,rfl,_⟩:=hd.shape
 obtain ⟨a1,c1,rfl,_⟩:=hp.shape
 obtain ⟨a2,c2,rfl,_⟩:=hv.shape'
 obtain ⟨a3,c3,rfl,_⟩:=hw.shape'
 have hz0:=boxZ w (.int .i64 sel) (.int .i64 ord) (.int .i64 br) (.slice a3 ws.length c3) 28
 have CW:=hD (wrong_c _ _ _ _ sel ord br ds ps vars ws most nodes _ (hd.below hz0) (hp.below hz0) (hv.below hz0) (hw.below hz0) hok hdl)
 have hx0:=BoxL.mk' w #[.int .i64 sel,.int .i64 ord,.int .i64 br,.slice a3 ws.length c3] 28
 obtain ⟨l0,_⟩:=hx0.get 0 rfl
 obtain ⟨l1,_⟩:=hx0.get 1 rfl
 obtain ⟨l2,_⟩:=hx0.get 2 rfl
 obtain ⟨l3,_⟩:=hx0.get 3 rfl
 have HZ:=hD hz0
 have hne:(begChk sel ord br ws.length ds.length ps vars most nodes != 0)=true:=by simpa using hbad
 clear hd hp hv hw hz0 hx0 hbad
 generalize begChk sel ord br ws.length ds.length ps vars most nodes=kk at *
 go_enter Tryz.func17,Tryz.ntmps17
 go_wp2_with (go_at_call 30;(with_reducible refine CW.out.mono ?_);rintro e W1 ⟨rfl,b1⟩;have B1:=hD (bT HZ.out b1);clear b1)
 go_ret2
 exact ⟨none,0,rfl,LsAt.nil,B1.out⟩
theorem search_c (vd vps vv vw:Value) (o:SOpt) (D:Ds) (ps:List PL) (vars:List Int) (most nodes:Nat) (W1:World) (hd:DsAt W1 vd D) (hp:PsAt W1 vps ps) (hv:IsAt W1 vv vars) (hw:IsAt W1 vw o.ws)
  (hin:FixIn D ps) (hlc:labChk o.sel o.ord o.br o.ws.length=0) (hvl:vars.length<=64) (hvi:∀ v∈vars,0<=v/\v.toNat<D.length) (h2:most<=1000) (h4:nodes<=10000) (T:TypeId) :
  Calls Tryz.prog 31 #[.pointer (some ⟨W1.heap.size,0,none⟩),vd] (W1.alloc (.cells #[vps,vv,.int .i64 o.sel,.int .i64 o.ord,.int .i64 o.br,vw,.int .i64 most,.int .i64 nodes,.slice none 0 0,.bool false] T))
   fun e W'=>(∃ v,e=.returned v)/\∃ (L:List (List Int)) (n:Nat) (ov:Bool) (ao:Option Addr) (cap:Nat),findR ps vars o most nodes [D]=(L,n,ov)/\NdW W1.heap.size vps vv o vw most W' n ov (.slice ao L.length cap) L/\Below W1.heap.size W1 W':=by
 obtain ⟨hsel,hord,hbr⟩:=labChk_sound hlc
 have hb1:Below W1.heap.size W1 (W1.alloc (.cells #[vps,vv,.int .i64 o.sel,.int .i64 o.ord,.int .i64 o.br,vw,.int .i64 most,.int .i64 nodes,.slice none 0 0,.bool false] T)):=bA _
 refine (node_all W1 W1.heap.size most D.length vps vv vw o ps vars ⟨hp,hv,hw,rN _,hsel,hord,hbr,hvl,hvi,h2⟩ nodes (by omega) _ vd (.slice none 0 0) D [] hb1 (NdW.made W1 _ _ o _ most nodes _) (DsQ.of_input hd hb1 (fun b hb=>⟨by omega,by simp [Value.ownBlock]⟩)) hin rfl (Nat.zero_le _)).mono ?_
 rintro e W' ⟨he,L,n,ov,vo,hf,hn,ha,_⟩
 rw [List.nil_append] at hn
 obtain ⟨ao,cap,rfl,_⟩:=hn.out.shape
 exact ⟨he,L,n,ov,ao,cap,hf,hn,hb1.trans (ha.below hb1.size (fun b hb=>by
  rcases hb with e | e
  ·omega
  ·simp [Value.ownBlock] at e))⟩
theorem refSolve_ok (vds vps vv vw:Value) (o:SOpt) (ds:Ds) (ps:List PL) (vars:List Int) (most nodes:Nat) (w:World) (hd:DsAt w vds ds) (hp:PsAt w vps ps) (hv:IsAt w vv vars) (hw:IsAt w vw o.ws)
  (hin:FixIn ds ps) (hgood:begChk o.sel o.ord o.br o.ws.length ds.length ps vars most nodes=0) (hlc:labChk o.sel o.ord o.br o.ws.length=0) (hvl:vars.length<=64) (hvi:∀ v∈vars,0<=v/\v.toNat<ds.length) (h2:most<=1000) (h4:nodes<=10000) :
  Calls Tryz.prog 17 #[vds,vps,vv,.agg #[.int .i64 o.sel,.int .i64 o.ord,.int .i64 o.br,vw],.int .i64 most,.int .i64 nodes] w (SolG (solE (findR ps vars o most nodes [ds])) (solL (findR ps vars o most nodes [ds])) w):=by
 obtain ⟨a0,c0,rfl,_⟩:=hd.shape
 obtain ⟨a1,c1,rfl,_⟩:=hp.shape
 obtain ⟨a2,c2,rfl,_⟩:=hv.shape'
 obtain ⟨a3,c3,rfl,_⟩:=hw.shape'
 have hz0:=boxZ w (.int .i64 o.sel) (.int .i64 o.ord) (.int .i64 o.br) (.slice a3 o.ws.length c3) 28
 have CW0:=wrong_c _ _ _ _ o.sel o.ord o.br ds ps vars o.ws most nodes _ (hd.below hz0) (hp.below hz0) (hv.below hz0) (hw.below hz0) hin.ok (by have:=hin.n;omega)
 rw [hgood] at CW0
 have CW:=hD CW0
 have hx0:=BoxL.mk' w #[.int .i64 o.sel,.int .i64 o.ord,.int .i64 o.br,.slice a3 o.ws.length c3] 28
 obtain ⟨l0,_⟩:=hx0.get 0 rfl
 obtain ⟨l1,_⟩:=hx0.get 1 rfl
 obtain ⟨l2,_⟩:=hx0.get 2 rfl
 obtain ⟨l3,_⟩:=hx0.get 3 rfl
 have HX0:=hD hx0
 have HZ:=hD hz0
 have CN:Hid (∀ W1,Below w.heap.size w W1->Calls Tryz.prog 31 #[.pointer (some ⟨W1.heap.size,0,none⟩),.slice a0 ds.length c0] (W1.alloc (.cells #[.slice a1 ps.length c1,.slice a2 vars.length c2,.int .i64 o.sel,.int .i64 o.ord,.int .i64 o.br,.slice a3 o.ws.length c3,.int .i64 most,.int .i64 nodes,.slice none 0 0,.bool false] 71))
   fun e W'=>(∃ v,e=.returned v)/\∃ (L:List (List Int)) (n:Nat) (ov:Bool) (ao:Option Addr) (cap:Nat),findR ps vars o most nodes [ds]=(L,n,ov)/\NdW W1.heap.size (.slice a1 ps.length c1) (.slice a2 vars.length c2) o (.slice a3 o.ws.length c3) most W' n ov (.slice ao L.length cap) L/\Below W1.heap.size W1 W'):=fun W1 h =>
  search_c _ _ _ _ o ds ps vars most nodes W1 (hd.below h) (hp.below h) (hv.below h) (hw.below h) hin hlc hvl hvi h2 h4 _
 clear hd hp hv hw hz0 hx0 CW0 hin hgood hlc hvi
 generalize findR ps vars o most nodes [ds]=R at *
 have HC:Hid (∀ W,Below (w.heap.size+1) (w.alloc (.cells #[.int .i64 o.sel,.int .i64 o.ord,.int .i64 o.br,.slice a3 o.ws.length c3] 28)) W->W.cell? ⟨w.heap.size,0,none⟩=some (.int .i64 o.sel)/\W.cell? ⟨w.heap.size,1,none⟩=some (.int .i64 o.ord)/\W.cell? ⟨w.heap.size,2,none⟩=some (.int .i64 o.br)/\W.cell? ⟨w.heap.size,3,none⟩=some (.slice a3 o.ws.length c3)):=fun W h=>by
  have e:=HX0.out.below (w':=W) (by simpa using h) (by simp)
  exact ⟨(e.get 0 rfl).1,(e.get 1 rfl).1,(e.get 2 rfl).1,(e.get 3 rfl).1⟩
 clear HX0
 go_enter Tryz.func17,Tryz.ntmps17
 go_upto_region 6 with (first
  | (go_at_call 30;(with_reducible refine CW.out.mono ?_);rintro e W1 ⟨rfl,b1⟩;have B1:=hD (bT HZ.out b1);obtain ⟨m0,m1,m2,m3⟩:=HC.out W1 (b1.mono (by simp));clear b1)
  | (go_at_call 31;(with_reducible refine (CN.out _ B1.out).mono ?_);rintro e W2 ⟨⟨rv,rfl⟩,L,n,ov,ao,cap,hf,hn,b2⟩;have HF:=hD hf;have HN:=hD hn;have B2:=hD (bT B1.out b2);clear hf hn b2))
 have x9:=HN.out.c9
 have x8:=HN.out.c8
 clear CN CW HC
 have HR:=HF.out
 subst HR
 cases ov with
 | true =>
  go_wp2
  go_ret2
  exact ⟨none,0,rfl,LsAt.nil,B2.out⟩
 | false =>
  go_wp2
  go_ret2
  exact ⟨_,_,rfl,HN.out.out.from.at,B2.out⟩
theorem solve_bad (vds vps vv vw:Value) (sel ord br:Int) (ds:Ds) (ps:List PL) (vars ws:List Int) (most nodes:Int) (w:World) (hd:DsAt w vds ds) (hp:PsAt w vps ps) (hv:IsAt w vv vars) (hw:IsAt w vw ws)
  (hok:∀ p∈ps,p.ok) (hvl:vars.length<=4096) (hbad:begChk sel ord br ws.length ds.length ps vars most nodes≠0) :
  Calls Tryz.prog 13 #[vds,vps,vv,.agg #[.int .i64 sel,.int .i64 ord,.int .i64 br,vw],.int .i64 most,.int .i64 nodes] w (SolG (begChk sel ord br ws.length ds.length ps vars most nodes) [] w):=by
 obtain ⟨a0,c0,rfl,_⟩:=hd.shape
 obtain ⟨a1,c1,rfl,_⟩:=hp.shape
 obtain ⟨a2,c2,rfl,_⟩:=hv.shape'
 obtain ⟨a3,c3,rfl,_⟩:=hw.shape'
 obtain ⟨W0,hW0⟩:∃ W0,W0=(w.alloc (.cells #[.int .i64 sel,.int .i64 ord,.int .i64 br,.slice a3 ws.length c3] 28)).alloc (.cells #[.int .i64 most] 3):=⟨_,rfl⟩
 have hz0:=boxZ w (.int .i64 sel) (.int .i64 ord) (.int .i64 br) (.slice a3 ws.length c3) 28
 have B0:Hid (Below w.heap.size w W0):=by rw [hW0];exact bL hz0 _
 have hx0:BoxL W0 w.heap.size [.int .i64 sel,.int .i64 ord,.int .i64 br,.slice a3 ws.length c3]:=by
  rw [hW0]
  exact (BoxL.mk' w #[.int .i64 sel,.int .i64 ord,.int .i64 br,.slice a3 ws.length c3] 28).below (bA _) (by simp)
 have hx1:W0.cell? ⟨w.heap.size+1,0,none⟩=some (.int .i64 most):=by
  have h:=((BoxL.mk' (w.alloc (.cells #[.int .i64 sel,.int .i64 ord,.int .i64 br,.slice a3 ws.length c3] 28)) #[.int .i64 most] 3).get 0 rfl).1
  rw [show (w.alloc (.cells #[.int .i64 sel,.int .i64 ord,.int .i64 br,.slice a3 ws.length c3] 28)).heap.size=w.heap.size+1 by simp,<- hW0] at h
  exact h
 have CB:=hD (begin_bad (.slice a0 ds.length c0) (.slice a1 ps.length c1) (.slice a2 vars.length c2) (.slice a3 ws.length c3) sel ord br ds ps vars ws most nodes W0 (hd.below B0.out) (hp.below B0.out) (hv.below B0.out) (hw.below B0.out) hok hvl hbad)
 obtain ⟨l0,_⟩:=hx0.get 0 rfl
 obtain ⟨l1,_⟩:=hx0.get 1 rfl
 obtain ⟨l2,_⟩:=hx0.get 2 rfl
 obtain ⟨l3,_⟩:=hx0.get 3 rfl
 have HWE:=hD hW0
 have hne:(begChk sel ord br ws.length ds.length ps vars most nodes != 0)=true:=by simpa using hbad
 clear hd hp hv hw hW0 hz0 hx0 hbad
 generalize begChk sel ord br ws.length ds.length ps vars most nodes=kk at *
 go_enter Tryz.func13,Tryz.ntmps13
 go_upto_region 1 with fail
 rw [<- HWE.out]
 go_wp2_with (go_at_call 26;(with_reducible refine CB.out.mono ?_);rintro e W1 ⟨rfl,b1⟩;have B1:=hD (bT B0.out b1);clear b1)
 go_ret2
 exact ⟨none,0,rfl,LsAt.nil,B1.out⟩
end
section
theorem theFix_fix {ps:List PL} {D:Ds} {R:Ds} (h:theFix ps D=some R):FixOf ps D (some R):=by
 unfold theFix at h
 split at h
 ·rename_i hx
  have:=Classical.choose_spec hx
  rw [h] at this
  exact this
 ·cases h
variable {ps:List PL} {vars:List Int} {o:SOpt}
theorem findR_map:∀ (k m:Nat) (st:List Ds),∀ x∈(findR ps vars o m k st).1,∃ f:Int->Int,x=vars.map f
 | k,0,st=>by cases k <;> cases st <;> simp [findR]
 | k,m+1,[]=>by cases k <;> simp [findR]
 | 0,m+1,D::st=>by simp [findR]
 | k+1,m+1,D::st=>by
  rw [findR]
  cases theFix ps D with
  | none=>exact findR_map k (m+1) st
  | some now =>
   dsimp only
   cases chooseL now vars o.sel o.ws vars.length with
   | none =>
    dsimp only
    intro z hz
    rcases List.mem_cons.1 hz with rfl | hz
    ·exact ⟨_,rfl⟩
    ·exact findR_map k m st z hz
   | some i=>exact findR_map k (m+1) _
theorem findR_in {n c i:Nat} (ho:o.ord=0\/o.ord=1) (hb:o.br=0\/o.br=1) (hv:∀ v∈vars,0<=v/\v.toNat<n) (hi:i<vars.length) (hic:vars[i]=(c:Int)):∀ (k m:Nat) (st:List Ds),(∀ D∈st,D.length=n)->∀ x∈(findR ps vars o m k st).1,∃ D∈st,memL (norm (D.getD c [])) (x.getD i 0)=true
 | k,0,st,_=>by cases k <;> cases st <;> simp [findR]
 | k,m+1,[],_=>by cases k <;> simp [findR]
 | 0,m+1,D::st,_=>by simp [findR]
 | k+1,m+1,D::st,hl=>by
  have hl':∀ E∈st,E.length=n:=fun E hE=>hl E (List.mem_cons_of_mem _ hE)
  rw [findR]
  cases hf:theFix ps D with
  | none =>
   intro x hx
   obtain ⟨E,hE,h⟩:=findR_in ho hb hv hi hic k (m+1) st hl' x hx
   exact ⟨E,List.mem_cons_of_mem _ hE,h⟩
  | some now =>
   have hF:=theFix_fix hf
   have hnl:now.length=n:=hF.1.len.trans (hl D List.mem_cons_self)
   have hcn:c<now.length:=by
    have:=hv _ (List.getElem_mem hi)
    rw [hic,Int.toNat_natCast] at this
    omega
   have hsub:∀ z,memL (norm (now.getD c [])) z=true->memL (norm (D.getD c [])) z=true:=fun z hz=>by
    rw [norm_of_normal (hF.1.nor c)] at hz
    have:=hF.1.sub c z hz
    rwa [getD_map_norm] at this
   dsimp only
   cases hc:chooseL now vars o.sel o.ws vars.length with
   | none =>
    dsimp only
    intro x hx
    rcases List.mem_cons.1 hx with rfl | hx
    ·refine ⟨D,List.mem_cons_self,hsub _ ?_⟩
     have e:(vars.map (fun v=>(endsL (norm (domOf now v))).1)).getD i 0=(endsL (norm (now.getD c []))).1:=by
      rw [List.getD_eq_getElem?_getD,List.getElem?_map,List.getElem?_eq_getElem hi,hic]
      show (endsL (norm (domOf now (c:Int)))).1=_
      unfold domOf;rw [Int.toNat_natCast]
     rw [e]
     exact (ends_in _ (by rw [okT_nil,norm_of_normal (hF.1.nor c)];simpa using hF.1.non c hcn)).1
    ·obtain ⟨E,hE,h⟩:=findR_in ho hb hv hi hic k m st hl' x hx
     exact ⟨E,List.mem_cons_of_mem _ hE,h⟩
   | some b =>
    have hsz:=choose_some hc
    have hbl:=chooseL_lt _ _ _ _ _ _ hc
    have hvb:=hv _ (List.getElem_mem hbl)
    obtain ⟨nv,hnv⟩:=Int.eq_ofNat_of_zero_le hvb.1
    have hgv:vars.getD b 0=(nv:Int):=by rw [List.getD_eq_getElem?_getD,List.getElem?_eq_getElem hbl];exact hnv
    rw [hgv,domAt_nat] at hsz
    dsimp only
    rw [hgv,Int.toNat_natCast]
    have hps:∀ (d:List Rg),(∀ z,memL (norm d) z=true->memL (norm (now.getD nv [])) z=true)->∀ z,memL (norm ((now.set nv d).getD c [])) z=true->memL (norm (now.getD c [])) z=true:=fun d hd z hz=>by
     rw [getD_set] at hz
     by_cases e:nv=c/\c<now.length
     ·rw [if_pos e] at hz;rw [<- e.1];exact hd z hz
     ·rwa [if_neg e] at hz
    intro x hx
    obtain ⟨E,hE,h⟩:=findR_in ho hb hv hi hic k (m+1) ((partAt now nv o).1::(partAt now nv o).2::st) (fun E hE=>by
     rcases List.mem_cons.1 hE with rfl | hE
     ·show (now.set _ _).length=n;rw [List.length_set];exact hnl
     ·rcases List.mem_cons.1 hE with rfl | hE
      ·show (now.set _ _).length=n;rw [List.length_set];exact hnl
      ·exact hl' E hE) x hx
    rcases List.mem_cons.1 hE with rfl | hE
    ·exact ⟨D,List.mem_cons_self,hsub _ (hps _ (fun z hz=>(split_mem hsz ho hb z).1.2 (.inl hz)) _ h)⟩
    ·rcases List.mem_cons.1 hE with rfl | hE
     ·exact ⟨D,List.mem_cons_self,hsub _ (hps _ (fun z hz=>(split_mem hsz ho hb z).1.2 (.inr hz)) _ h)⟩
     ·exact ⟨E,List.mem_cons_of_mem _ hE,h⟩
theorem minP_fuel {n c i:Nat} {D0:Ds} (ho:o.ord=0\/o.ord=1) (hb:o.br=0\/o.br=1) (hv:∀ v∈vars,0<=v/\v.toNat<n) (hi:i<vars.length) (hic:vars[i]=(c:Int)) (hD:D0.length=n):∀ (m m' k:Nat) (now:Ds) (best:Option (List Int)) (z:Int),now.length=n ->
  (∀ v,memL (norm (now.getD c [])) v=true->v<z)->z+200<m->1<=m->k<m'->minP ps vars o i c D0 m k now best=minP ps vars o i c D0 m' k now best
 | 0,_,_,_,_,_,_,_,_,h,_=>by omega
 | _+1,0,_,_,_,_,_,_,_,_,h=>by omega
 | m+1,m'+1,k,now,best,z,hl,hz,hm,_,hk=>by
  obtain ⟨L,nn,ov,hf⟩:∃ L nn ov,findR ps vars o 1 k [now]=(L,nn,ov):=⟨_,_,_,rfl⟩
  have h1:=findR_list (ps:=ps) (vars:=vars) (o:=o) k [now]
  have h2:=(findR_less ps vars o k 1 [now]).2
  have h3:=findR_in (ps:=ps) ho hb hv hi hic k 1 [now] (fun E hE=>by rw [List.mem_singleton.1 hE];exact hl)
  rw [hf] at h1 h2 h3
  rcases L with _ | ⟨x,L⟩
  ·rw [minP_stop hf,minP_stop hf]
  ·obtain rfl:L=[]:=by
    dsimp only at h1
    rw [List.length_cons] at h1
    exact List.length_eq_zero_iff.1 (by omega)
   obtain ⟨E,hE,hx⟩:=h3 x List.mem_cons_self
   rw [List.mem_singleton.1 hE] at hx
   have hlt:=hz _ hx
   have hbn:=memL_bounds (norm_normal _) hx
   have hn:=h2 (by simp)
   dsimp only at hn
   have hcl:c<D0.length:=by
    have:=hv _ (List.getElem_mem hi)
    rw [hic,Int.toNat_natCast] at this
    omega
   rw [minP_more hf,minP_more hf]
   refine minP_fuel ho hb hv hi hic hD m m' nn (lessD D0 c (x.getD i 0)) (some x) (x.getD i 0) (by unfold lessD;rw [List.length_set];exact hD) (fun v hv'=>?_) (by omega) (by omega) (by omega)
   unfold lessD at hv'
   rw [getD_set,if_pos ⟨rfl,hcl⟩,norm_of_normal (meetL_normal _ _)] at hv'
   have hm:memL (meetL (D0.getD c []) [(-200,x.getD i 0 - 1)]) v=(inD v&&(memL (D0.getD c []) v&&memL [(-200,x.getD i 0 - 1)] v)):=canon_mem _ _
   rw [hm,mem1,Bool.and_eq_true,Bool.and_eq_true,Bool.and_eq_true,decide_eq_true_eq,decide_eq_true_eq] at hv'
   omega
theorem minP_at {c i j:Nat} {D0:Ds} (hi:i<vars.length) (hj:j<vars.length) (e:vars[i]=vars[j]):∀ (m k:Nat) (now:Ds) (best:Option (List Int)),minP ps vars o i c D0 m k now best=minP ps vars o j c D0 m k now best
 | 0,_,_,_=>rfl
 | m+1,k,now,best=>by
  obtain ⟨L,nn,ov,hf⟩:∃ L nn ov,findR ps vars o 1 k [now]=(L,nn,ov):=⟨_,_,_,rfl⟩
  have h1:=findR_list (ps:=ps) (vars:=vars) (o:=o) k [now]
  have h3:=findR_map (ps:=ps) (vars:=vars) (o:=o) k 1 [now]
  rw [hf] at h1 h3
  rcases L with _ | ⟨x,L⟩
  ·rw [minP_stop hf,minP_stop hf]
  ·obtain rfl:L=[]:=by
    dsimp only at h1
    rw [List.length_cons] at h1
    exact List.length_eq_zero_iff.1 (by omega)
   obtain ⟨f,rfl⟩:=h3 x List.mem_cons_self
   have hx:(vars.map f).getD i 0=(vars.map f).getD j 0:=by
    rw [List.getD_eq_getElem?_getD,List.getD_eq_getElem?_getD,List.getElem?_map,List.getElem?_map,List.getElem?_eq_getElem hi,List.getElem?_eq_getElem hj,e]
   rw [minP_more hf,minP_more hf,hx]
   exact minP_at hi hj e m nn _ _
theorem minP_wide {c i:Nat} {D0:Ds}:∀ (m k:Nat) (now:Ds) (best:Option (List Int)),(∀ x,best=some x->x.length=vars.length)->∀ x,(minP ps vars o i c D0 m k now best).1=some x->x.length=vars.length
 | 0,_,_,_,h,x,hx=>h x hx
 | m+1,k,now,best,h,x,hx=>by
  obtain ⟨L,nn,ov,hf⟩:∃ L nn ov,findR ps vars o 1 k [now]=(L,nn,ov):=⟨_,_,_,rfl⟩
  have h1:=findR_list (ps:=ps) (vars:=vars) (o:=o) k [now]
  have h3:=findR_map (ps:=ps) (vars:=vars) (o:=o) k 1 [now]
  rw [hf] at h1 h3
  rcases L with _ | ⟨y,L⟩
  ·rw [minP_stop hf] at hx;exact h x hx
  ·obtain rfl:L=[]:=by
    dsimp only at h1
    rw [List.length_cons] at h1
    exact List.length_eq_zero_iff.1 (by omega)
   obtain ⟨f,rfl⟩:=h3 y List.mem_cons_self
   rw [minP_more hf] at hx
   exact minP_wide m nn _ _ (fun z hz=>by cases hz;simp) x hx
end
section
open Go.RowKit
def BestV (W:World) (M:Nat->Prop) (bb bn bt:Nat) (L:List Nat) (vb:Value):Option (List Int)->Prop
 | none=>vb=.slice none 0 0
 | some x=>IsAt W vb x/\∀ b,vb.ownBlock=some b->M b/\b≠bb/\b≠bn/\b≠bt/\b ∉ L
structure MinW (w:World) (n0 bd bc ba bb bn sb:Nat) (vds vps vv vw:Value) (o:SOpt) (cost at_:Int) (Wr:World) (M:Nat->Prop) (L:List Nat) (bt:Nat) (better:Bool) (best:Option (List Int)) (now:Ds) (k:Int) (ov:Bool):Prop where
 b:Below n0 w Wr
 s:Srch Wr sb vps vv o.sel o.ord o.br vw k ov
 xd:Wr.cell? ⟨bd,0,none⟩=some vds
 xc:Wr.cell? ⟨bc,0,none⟩=some (.int .i64 cost)
 xa:Wr.cell? ⟨ba,0,none⟩=some (.int .i64 at_)
 xb:∃ vb,Wr.cell? ⟨bb,0,none⟩=some vb/\Wr.frozen? ⟨bb,0,none⟩=false/\BestV Wr M bb bn bt L vb best
 xn:∃ vn,Wr.cell? ⟨bn,0,none⟩=some vn/\Wr.frozen? ⟨bn,0,none⟩=false/\(better=true->DsQ (fun b=>¬ M b/\b≠sb) Wr vn now)
 xt:Wr.cell? ⟨bt,0,none⟩=some (.bool better)/\Wr.frozen? ⟨bt,0,none⟩=false
 md:M bd
 mc:M bc
 ma:M ba
 mb:M bb
 mn:M bn
 mt:M bt
 ml:∀ b,M b->n0<=b
 lt:∀ b,M b->b<Wr.heap.size
 ms:¬ M sb
 sl:n0<=sb
 o1:bd<bc
 o2:bc<ba
 o3:ba<bb
 o4:bb<bn
 o5:bn<bt
 dl:∀ D∈L,Wr.heap[D]?=some (.deferred (some []))/\M D/\D≠bb/\D≠bn/\D≠bt
 nd:L.Nodup
theorem FixIn.setN {D:Ds} {ps:List PL} (h:FixIn D ps) {d:List Rg} (hd:d.length<=4096) (v:Nat):FixIn (D.set v d) ps:=by
 have hm:∀ e∈D.set v d,e.length<=4096:=fun e he=>by
  rcases List.mem_or_eq_of_mem_set he with h1 | rfl
  ·exact h.dm e h1
  ·exact hd
 refine ⟨fun p hp=>?_,h.ok,by rw [List.length_set];exact h.n,hm,h.P⟩
 have hp':=h.fine p hp
 exact ⟨hp'.kind,fun hk=>by
  obtain ⟨g,a,b,c,e⟩:=hp'.lin hk
  exact ⟨⟨g.len,g.le16,g.coefs,fun v hv=>by rw [List.length_set];exact g.vars v hv,hm⟩,a,b,c,e⟩,hp'.vsl,fun v hv=>by rw [List.length_set];exact hp'.vars v hv⟩
theorem FixIn.less {D:Ds} {ps:List PL} (h:FixIn D ps) (c:Nat) (z:Int):FixIn (lessD D c z) ps:=h.setN (Nat.le_trans (normal_len (canon_normal _)) (by decide)) c
theorem lessD_len (D:Ds) (c:Nat) (z:Int):(lessD D c z).length=D.length:=by unfold lessD;rw [List.length_set]
theorem leaves_marks {F:Fence} {n:Nat} {P:Program} {fn:Func} {tmps:Array Value} {R:Ending->World->Prop} {c:Nat}:∀ (L:List Nat) (W:World),(∀ D∈L,W.heap[D]?=some (.deferred (some []))/\c<=D)->L.Nodup->c<=W.heap.size ->
  (∀ W',W'.heap.size=W.heap.size->Below c W W'->(∀ b,b ∉ L->W'.heap[b]?=W.heap[b]?)->LeavesIn F n P fn tmps R [] .returning W')->LeavesInM F n P fn tmps R (L.map fun D=>{ target:=.collected D,args:=#[] }) .returning W
 | [],W,_,_,_,h=>h W rfl (Below.refl _ _) (fun _ _=>rfl)
 | D::L,W,hL,hn,hc,h=>by
  obtain ⟨n1,n2⟩:=List.nodup_cons.1 hn
  have hD:=hL D List.mem_cons_self
  refine ⟨by simp,.inl ⟨D,_,rfl,run_takeDeferred hD.1,leaves_marks L (W.putObj D (.deferred none)) (fun E hE=>?_) n2 (by simpa using hc) (fun W' hs hb hk=>?_)⟩⟩
  ·have hE':=hL E (List.mem_cons_of_mem _ hE)
   exact ⟨(World.putObj_heap_other (fun (e:E=D)=>n1 (by rw [<- e];exact hE))).trans hE'.1,hE'.2⟩
  ·have hb1:Below c W (W.putObj D (.deferred none)):=(Below.refl c W).grown (grownBy_putObj' W D _) hc (fun k e=>by cases e;exact hD.2)
   exact h W' (hs.trans (by simp)) (hb1.trans hb) (fun b hb'=>(hk b (fun e=>hb' (List.mem_cons_of_mem _ e))).trans (World.putObj_heap_other (fun e=>hb' (by rw [e];exact List.mem_cons_self))))
theorem box_in {W1 Wn:World} {X:Value} {T:TypeId} (hb:Below (W1.heap.size+1) (W1.alloc (.cells #[X] T)) Wn):Wn.cell? ⟨W1.heap.size,0,none⟩=some X/\Wn.frozen? ⟨W1.heap.size,0,none⟩=false :=
 ((BoxL.mk' W1 #[X] T).below hb (by omega)).get 0 rfl
theorem MinW.next {w:World} {n0 bd bc ba bb bn sb:Nat} {vds vps vv vw:Value} {o:SOpt} {cost at_:Int} {W W5:World} {M M1:Nat->Prop} {L:List Nat} {bt D:Nat} {bet bet':Bool} {best best':Option (List Int)} {now now':Ds} {k k':Int} {ov ov':Bool}
  (h:MinW w n0 bd bc ba bb bn sb vds vps vv vw o cost at_ W M L bt bet best now k ov) (hb:Below n0 w W5) (hs:Srch W5 sb vps vv o.sel o.ord o.br vw k' ov') (hM:∀ b,M b->M1 b) (hsame:∀ b,M b->b≠bb->b≠bn->b≠bt->W5.heap[b]?=W.heap[b]?)
  (hD:W5.heap[D]?=some (.deferred (some []))) (hDM:¬ M1 D) (hDn:n0<=D) (hm1:∀ b,M1 b->n0<=b/\b<W5.heap.size) (hms:¬ M1 sb)
  (xb:∃ vb,W5.cell? ⟨bb,0,none⟩=some vb/\W5.frozen? ⟨bb,0,none⟩=false/\BestV W5 M1 bb bn bt L vb best') (xn:∃ vn,W5.cell? ⟨bn,0,none⟩=some vn/\W5.frozen? ⟨bn,0,none⟩=false/\(bet'=true->DsQ (fun b=>¬ M1 b/\b≠sb/\b≠D) W5 vn now')) (T:TypeId) :
  MinW w n0 bd bc ba bb bn sb vds vps vv vw o cost at_ (W5.alloc (.cells #[.bool bet'] T)) (fun b=>(M1 b\/b=D)\/b=W5.heap.size) (D::L) W5.heap.size bet' best' now' k' ov':=by
 have hDl:D<W5.heap.size:=(Array.getElem?_eq_some_iff.1 hD).1
 have hal:∀ b,b<W5.heap.size->(W5.alloc (.cells #[.bool bet'] T)).heap[b]?=W5.heap[b]?:=fun b hb=>Below.heap_alloc W5 _ b hb
 have q1:=h.o1
 have q2:=h.o2
 have q3:=h.o3
 have q4:=h.o4
 have q5:=h.o5
 have hsz:(W5.alloc (.cells #[.bool bet'] T)).heap.size=W5.heap.size+1:=by simp
 have hsl:=hs.lt
 have hDs:D≠sb:=fun e=>by
  have h1:=hs.c0
  subst e
  simp [World.cell?,hD] at h1
 have cel:∀ b v,M b->b≠bb->b≠bn->b≠bt->W.cell? ⟨b,0,none⟩=some v->(W5.alloc (.cells #[.bool bet'] T)).cell? ⟨b,0,none⟩=some v:=fun b v hm n1 n2 n3 hc =>
  (World.cell?_of_block (a:=⟨b,0,none⟩) ((hal b (hm1 b (hM b hm)).2).trans (hsame b hm n1 n2 n3))).trans hc
 obtain ⟨vb,e1,e2,e3⟩:=xb
 obtain ⟨vn,f1,f2,f3⟩:=xn
 have lb:=(hm1 bb (hM bb h.mb)).2
 have ln:=(hm1 bn (hM bn h.mn)).2
 have hbox:=box_in (W1:=W5) (X:=.bool bet') (T:=T) (Below.refl _ _)
 exact {
  b:=hb.alloc (by have g1:=hm1 _ (hM _ h.md);omega) _
  s:=hs.on (hal sb hsl)
  xd:=cel bd _ h.md (by omega) (by omega) (by omega) h.xd
  xc:=cel bc _ h.mc (by omega) (by omega) (by omega) h.xc
  xa:=cel ba _ h.ma (by omega) (by omega) (by omega) h.xa
  xb:=⟨vb,(World.cell?_of_block (a:=⟨bb,0,none⟩) (hal bb lb)).trans e1,(World.frozen?_of_block (a:=⟨bb,0,none⟩) (hal bb lb)).trans e2,by
   cases best' with
   | none=>exact e3
   | some x =>
    refine ⟨SlAt.ownB e3.1 (by omega) (fun b hb _=>hal b hb),fun b e=>?_⟩
    obtain ⟨g1,g2,g3,g4,g5⟩:=e3.2 b e
    have g6:=(hm1 b g1).2
    exact ⟨.inl (.inl g1),g2,g3,by omega,fun hm=>by
     rcases List.mem_cons.1 hm with rfl | hm
     ·exact hDM g1
     ·exact g5 hm⟩⟩
  xn:=⟨vn,(World.cell?_of_block (a:=⟨bn,0,none⟩) (hal bn ln)).trans f1,(World.frozen?_of_block (a:=⟨bn,0,none⟩) (hal bn ln)).trans f2,
   fun hbt=>((f3 hbt).weaken (fun b hb hq=>⟨by rintro ((g | g) | g);exact hq.1 g;exact hq.2.2 g;omega,hq.2.1⟩)).on (by omega) (fun b hb _=>hal b hb)⟩
  xt:=hbox
  md:=.inl (.inl (hM _ h.md))
  mc:=.inl (.inl (hM _ h.mc))
  ma:=.inl (.inl (hM _ h.ma))
  mb:=.inl (.inl (hM _ h.mb))
  mn:=.inl (.inl (hM _ h.mn))
  mt:=.inr rfl
  ml:=fun b hb'=>by
   rcases hb' with (g | rfl) | rfl
   ·exact (hm1 b g).1
   ·exact hDn
   ·have g1:=hm1 _ (hM _ h.md);omega
  lt:=fun b hb'=>by
   rcases hb' with (g | rfl) | rfl
   ·have:=(hm1 b g).2;omega
   ·omega
   ·omega
  ms:=by
   rintro ((g | g) | g)
   ·exact hms g
   ·exact hDs g.symm
   ·omega
  sl:=h.sl
  o1:=q1
  o2:=q2
  o3:=q3
  o4:=q4
  o5:=ln
  dl:=fun E hE=>by
   rcases List.mem_cons.1 hE with rfl | hE
   ·exact ⟨(hal E hDl).trans hD,.inl (.inr rfl),fun e=>hDM (e ▸ hM _ h.mb),fun e=>hDM (e ▸ hM _ h.mn),by omega⟩
   ·obtain ⟨g1,g2,g3,g4,g5⟩:=h.dl E hE
    have g6:=(hm1 E (hM E g2)).2
    exact ⟨(hal E g6).trans ((hsame E g2 g3 g4 g5).trans g1),.inl (.inl (hM E g2)),g3,g4,by omega⟩
  nd:=List.nodup_cons.2 ⟨fun hm=>hDM (hM D (h.dl D hm).2.1),h.nd⟩ }
structure MinE (w W4:World) (n0 bb bn bt sb:Nat) (M:Nat->Prop) (x:List Int) (X:Nat->Prop) (now':Ds) (M1:Nat->Prop) (Wb:World):Prop where
 b:Below n0 w Wb
 up:∀ b,M b->M1 b
 same:∀ b,M b->b≠bb->b≠bn->b≠bt->Wb.heap[b]?=W4.heap[b]?
 xx:∀ b,X b->M1 b/\¬ M b/\b≠sb
 xb:∃ vx,Wb.cell? ⟨bb,0,none⟩=some vx/\Wb.frozen? ⟨bb,0,none⟩=false/\IsAt Wb vx x/\∀ b,vx.ownBlock=some b->X b
 xn:∃ vn,Wb.cell? ⟨bn,0,none⟩=some vn/\Wb.frozen? ⟨bn,0,none⟩=false/\DsQ (fun b=>(b<n0\/M1 b)/\¬ M b/\¬ X b/\b≠sb) Wb vn now'
 xt:Wb.cell? ⟨bt,0,none⟩=some (.bool true)/\Wb.frozen? ⟨bt,0,none⟩=false
 ml:∀ b,M1 b->n0<=b
 lt:∀ b,M1 b->b<Wb.heap.size
def MinX (w W4:World) (n0 bb bn bt sb:Nat) (M:Nat->Prop) (x:List Int) (now':Ds) (M1:Nat->Prop) (W:World):Prop :=
 ∃ (X:Nat->Prop) (Wb:World),MinE w W4 n0 bb bn bt sb M x X now' M1 Wb/\Wb.heap.size<=W.heap.size/\∀ b,M1 b->W.heap[b]?=Wb.heap[b]?
def MinR (R:Option (List Int)×Bool) (w:World) (e:Ending) (w':World):Prop :=
 Below w.heap.size w w'/\((R.2=true/\e=.returned (.tuple #[.slice none 0 0,.int .i64 34]))\/(R.2=false/\∃ vb,e=.returned (.tuple #[vb,.int .i64 0])/\((R.1=none/\vb=.slice none 0 0)\/∃ x,R.1=some x/\IsAt w' vb x)))
end
end Go.Proofs.YtaekdgikgbdnnaaGreat
