/-
  label.Minimize, walked, where it may begin.
-/
import Derived.Test.YtaekdgikgbdnnaaGreatKref15
import Derived.Test.YtaekdgikgbdnnaaGreatKsol2
import Derived.Test.YtaekdgikgbdnnaaGreatKlin1
namespace Go.Proofs.YtaekdgikgbdnnaaGreat
section
open Go.RowKit
attribute [local go_sem] Oper.semAt_some
set_option maxRecDepth 1000000
set_option maxHeartbeats 3200000
theorem minimize_ok (vds vps vv vw:Value) (o:SOpt) (ds:Ds) (ps:List PL) (vars:List Int) (cost at_ nodes:Nat) (w:World) (hd:DsAt w vds ds) (hp:PsAt w vps ps) (hv:IsAt w vv vars) (hw:IsAt w vw o.ws)
  (hin:FixIn ds ps) (hlc:labChk o.sel o.ord o.br o.ws.length=0) (hfc:fixChk ds.length ps=0) (hvl:vars.length<=64) (hvi:∀ v∈vars,0<=v/\v.toNat<ds.length) (h3:1<=nodes) (h4:nodes<=10000) (hat:findI ((cost:Int)==·) vars=at_) (hal:at_<vars.length) (hcl:cost<ds.length) :
  Calls Tryz.prog 21 #[vds,vps,vv,.int .i64 cost,.agg #[.int .i64 o.sel,.int .i64 o.ord,.int .i64 o.br,vw],.int .i64 nodes] w (MinR (minP ps vars o at_ cost ds (nodes+1) nodes ds none) w):=by
 obtain ⟨a0,c0,rfl,_⟩:=hd.shape
 obtain ⟨b0,off0,ad,cd,rfl,hca0,hlt0,_,hcel0,hrg0⟩:=hd.get cost hcl
 obtain ⟨dl,hdle⟩:∃ dl,dl=ds[cost]:=⟨_,rfl⟩
 have HDG:Hid (ds.getD cost []=dl):=by show _=_;rw [hdle,List.getD_eq_getElem?_getD,List.getElem?_eq_getElem hcl];rfl
 have hdl:dl.length<=4096:=by rw [hdle];exact hin.dm _ (List.getElem_mem hcl)
 rw [<- hdle] at hcel0 hrg0
 clear hdle
 obtain ⟨a1,c1,rfl,_⟩:=hp.shape
 obtain ⟨a2,c2,rfl,_⟩:=hv.shape'
 obtain ⟨a3,c3,rfl,_⟩:=hw.shape'
 obtain ⟨W0,hW0⟩:∃ W0,W0=((w.alloc (.cells #[.slice (some ⟨b0,off0,none⟩) ds.length c0] 22)).alloc (.cells #[.int .i64 cost] 3)).alloc (.cells #[.int .i64 o.sel,.int .i64 o.ord,.int .i64 o.br,.slice a3 o.ws.length c3] 28):=⟨_,rfl⟩
 have B0:Hid (Below w.heap.size w W0):=by rw [hW0];exact ((bA _).alloc (by simp) _).alloc (by simp;omega) _
 have hs0:W0.heap.size=w.heap.size+3:=by rw [hW0];simp
 have hx0:Hid (BoxL W0 w.heap.size [.slice (some ⟨b0,off0,none⟩) ds.length c0]):=by
  rw [hW0]
  exact (BoxL.mk' w #[.slice (some ⟨b0,off0,none⟩) ds.length c0] 22).below ((((Below.refl (w.heap.size+1) _).alloc (by simp) _)).alloc (by simp) _) (by simp)
 have hx1:Hid (BoxL W0 (w.heap.size+1) [.int .i64 cost]):=by
  rw [hW0]
  have h:=BoxL.mk' (w.alloc (.cells #[.slice (some ⟨b0,off0,none⟩) ds.length c0] 22)) #[.int .i64 cost] 3
  rw [World.size_alloc] at h
  exact h.below (bA _) (by simp)
 have hx2:BoxL W0 (w.heap.size+2) [.int .i64 o.sel,.int .i64 o.ord,.int .i64 o.br,.slice a3 o.ws.length c3]:=by
  rw [hW0]
  have h:=BoxL.mk' ((w.alloc (.cells #[.slice (some ⟨b0,off0,none⟩) ds.length c0] 22)).alloc (.cells #[.int .i64 cost] 3)) #[.int .i64 o.sel,.int .i64 o.ord,.int .i64 o.br,.slice a3 o.ws.length c3] 28
  rw [World.size_alloc,World.size_alloc] at h
  exact h
 have CB:=Lib.hid (begin_ok (.slice (some ⟨b0,off0,none⟩) ds.length c0) (.slice a1 ps.length c1) (.slice a2 vars.length c2) (.slice a3 o.ws.length c3) o.sel o.ord o.br ds ps vars o.ws 1 nodes W0 (hd.below B0.out) (hp.below B0.out) (hv.below B0.out) (hw.below B0.out) hin.ok hlc hfc hvl hvi (by omega) (by omega) (by omega) (by omega))
 have CI:Hid (∀ W,Below w.heap.size w W->Calls Tryz.prog 32 #[.slice a2 vars.length c2,.int .i64 cost] W fun e w'=>e=.returned (.int .i64 at_)/\W=w'):=fun W hb=>by rw [<- hat];exact index_any _ _ _ _ (hv.below hb) (by omega)
 obtain ⟨l0,_⟩:=hx2.get 0 rfl
 obtain ⟨l1,_⟩:=hx2.get 1 rfl
 obtain ⟨l2,_⟩:=hx2.get 2 rfl
 obtain ⟨l3,_⟩:=hx2.get 3 rfl
 obtain ⟨l4,_⟩:=hx0.out.get 0 rfl
 obtain ⟨l5,_⟩:=hx1.out.get 0 rfl
 have HD:=Lib.hid hd
 have HDC:Hid (∀ W,Below w.heap.size w W->W.cell? ⟨b0,off0+cost,none⟩=some (.slice ad dl.length cd)/\RgAt W (.slice ad dl.length cd) dl):=fun W hb=>⟨(hb.cell (p:=⟨b0,off0+cost,none⟩) hlt0).trans hcel0,hrg0.below hb⟩
 have jc1:(cost:Int)<ds.length:=by omega
 have jc2:(ds.length:Int)<=c0:=by omega
 have HP:=Lib.hid hp
 have HV:=Lib.hid hv
 have HW:=Lib.hid hw
 have HIN:=Lib.hid hin
 have HVI:=Lib.hid hvi
 have HLC:=Lib.hid hlc
 have HWE:=Lib.hid hW0
 have HS0:=Lib.hid hs0
 clear hcel0 hrg0 hd hp hv hw hin hlc hfc hvi hW0 hx2 hs0 hat
 refine (callsIn_wide (n:=3)).1 (callsIn_of_wp_marks Tryz.func21 rfl trivial ?_ rfl)
 refine wpIn_wide.2 ?_
 simp only [Tryz.ntmps21,List.size_toArray,List.length_cons,List.length_nil,Nat.reduceAdd,Nat.reduceSub,Array.replicate_succ,Array.replicate_zero,List.push_toArray,List.append_toArray,List.nil_append,List.cons_append]
 go_upto_region 1 with fail
 rw [<- HWE.out]
 go_upto_region 4 with (go_at_call 26;(with_reducible refine CB.out.mono ?_);rintro e W1 ⟨sb,rfl,hsb,hsr,b1⟩;have B1:=Lib.hid b1;have SR:=Lib.hid hsr;have HSB:=Lib.hid hsb;clear b1 hsr hsb)
 have hsl:=SR.out.lt
 have BI1:Hid (Below w.heap.size w W1):=bT B0.out B1.out
 have hs0:=HS0.out
 have z4:W1.cell? ⟨w.heap.size,0,none⟩=some (.slice (some ⟨b0,off0,none⟩) ds.length c0):=(B1.out.cell (p:=⟨w.heap.size,0,none⟩) (by dsimp only;omega)).trans l4
 have z5:W1.cell? ⟨w.heap.size+1,0,none⟩=some (.int .i64 cost):=(B1.out.cell (p:=⟨w.heap.size+1,0,none⟩) (by dsimp only;omega)).trans l5
 clear l0 l1 l2 l3 l4 l5 hs0
 go_upto_region 7 with (go_at_call 32;(with_reducible refine (CI.out _ ?_).mono ?_);(·exact BI1.out);rintro e W2 ⟨rfl,rfl⟩)
 obtain ⟨W2,hW2⟩:∃ W2,W2=(((W1.alloc (.cells #[.int .i64 at_] 3)).alloc (.cells #[.slice none 0 0] 26)).alloc (.cells #[.slice (some ⟨b0,off0,none⟩) ds.length c0] 22)).alloc (.cells #[.bool true] 4):=⟨_,rfl⟩
 have y4:∀ X Y,((W1.alloc (.cells #[X] 3)).alloc (.cells #[Y] 26)).cell? ⟨w.heap.size,0,none⟩=some (.slice (some ⟨b0,off0,none⟩) ds.length c0):=fun X Y=>Lib.cell?_alloc_some _ (Lib.cell?_alloc_some _ z4)
 go_wp2
 rw [<- hW2]
 have HW2:=Lib.hid hW2
 have B2:Hid (Below W1.heap.size W1 W2):=by rw [hW2];exact (((bA _).alloc (by simp) _).alloc (by simp;omega) _).alloc (by simp;omega) _
 have S2:Hid (W2.heap.size=W1.heap.size+4):=by show _=_;rw [hW2];simp
 obtain ⟨R,hR⟩:∃ R,R=minP ps vars o at_ cost ds (nodes+1) nodes ds none:=⟨_,rfl⟩
 rw [<- hR]
 have HR:=Lib.hid hR
 have HZ4:=Lib.hid z4
 have HZ5:=Lib.hid z5
 clear hW2 hR y4 z4 z5
 refine wp_loop_ghost (fun g a W=>∃ (j39 j40 j41 j42 j60:Value) (L:List Nat) (bt:Nat) (M:Nat->Prop) (better:Bool) (best:Option (List Int)) (now:Ds) (k:Int) (ov:Bool),a={ tmps:=#[.slice (some ⟨b0,off0,none⟩) ds.length c0,.slice a1 ps.length c1,.slice a2 vars.length c2,.int .i64 cost,.agg #[.int .i64 o.sel,.int .i64 o.ord,.int .i64 o.br,.slice a3 o.ws.length c3],.int .i64 nodes,.pointer (some ⟨w.heap.size,0,none⟩),undef,undef,.pointer (some ⟨w.heap.size+1,0,none⟩),.pointer (some ⟨w.heap.size+1+1,0,none⟩),undef,.slice none 0 0,.int .i64 0,.pointer (some ⟨sb,0,none⟩),.int .i64 0,.pointer (some ⟨W1.heap.size,0,none⟩),.pointer (some ⟨W1.heap.size+1,0,none⟩),.pointer (some ⟨W1.heap.size+1+1,0,none⟩),.pointer (some ⟨bt,0,none⟩),undef,.tuple #[.pointer (some ⟨sb,0,none⟩),.int .i64 0],.slice (some ⟨b0,off0,none⟩) ds.length c0,.slice a1 ps.length c1,.slice a2 vars.length c2,.agg #[.int .i64 o.sel,.int .i64 o.ord,.int .i64 o.br,.slice a3 o.ws.length c3],.int .i64 nodes,.tuple #[.pointer (some ⟨sb,0,none⟩),.int .i64 0],.pointer (some ⟨sb,0,none⟩),.int .i64 0,.int .i64 0,.bool false,undef,.slice a2 vars.length c2,.int .i64 cost,.int .i64 at_,.int .i64 at_,.bool (decide ((at_:Int)<0)),.slice (some ⟨b0,off0,none⟩) ds.length c0,j39,j40,j41,j42,undef,undef,undef,undef,undef,undef,undef,undef,undef,undef,undef,undef,undef,undef,undef,undef,undef,j60,undef,undef,undef,undef,undef],defers:=L.map fun D=>{ target:=.collected D,args:=#[] } } /\
   Hid (MinW w w.heap.size w.heap.size (w.heap.size+1) W1.heap.size (W1.heap.size+1) (W1.heap.size+1+1) sb (.slice (some ⟨b0,off0,none⟩) ds.length c0) (.slice a1 ps.length c1) (.slice a2 vars.length c2) (.slice a3 o.ws.length c3) o cost at_ W M L bt better best now k ov) /\
   Hid (now.length=ds.length/\FixIn now ps)/\((better=true/\ov=false/\∃ kN m:Nat,k=kN/\g=kN+1/\Hid (kN<m/\kN<=10000/\minP ps vars o at_ cost ds m kN now best=R))\/(better=false/\g=0/\Hid (R=(best,ov))))) (nodes+1) ?start ?round
 case start =>
  refine ⟨undef,undef,undef,undef,undef,[],W1.heap.size+1+1+1,(fun b=>b=w.heap.size\/b=w.heap.size+1\/b=W1.heap.size\/b=W1.heap.size+1\/b=W1.heap.size+1+1\/b=W1.heap.size+1+1+1),true,none,ds,nodes,false,rfl,?_,⟨rfl,HIN.out⟩,.inl ⟨rfl,rfl,nodes,nodes+1,rfl,rfl,by omega,h4,HR.out.symm⟩⟩
  have e:=HW2.out
  have s1:(W1.alloc (.cells #[.int .i64 at_] 3)).heap.size=W1.heap.size+1:=by simp
  have s2:((W1.alloc (.cells #[.int .i64 at_] 3)).alloc (.cells #[.slice none 0 0] 26)).heap.size=W1.heap.size+1+1:=by simp
  have s3:(((W1.alloc (.cells #[.int .i64 at_] 3)).alloc (.cells #[.slice none 0 0] 26)).alloc (.cells #[.slice (some ⟨b0,off0,none⟩) ds.length c0] 22)).heap.size=W1.heap.size+1+1+1:=by simp
  have g0:W2.cell? ⟨W1.heap.size,0,none⟩=some (.int .i64 at_)/\W2.frozen? ⟨W1.heap.size,0,none⟩=false:=by
   rw [e];exact box_in ((((Below.refl _ _).alloc (by rw [s1];exact rN _) _).alloc (by rw [s2];omega) _).alloc (by rw [s3];omega) _)
  have g1:W2.cell? ⟨W1.heap.size+1,0,none⟩=some (.slice none 0 0)/\W2.frozen? ⟨W1.heap.size+1,0,none⟩=false:=by
   rw [e,<- s1];exact box_in (((Below.refl _ _).alloc (by rw [s2,s1];exact rN _) _).alloc (by rw [s3,s1];omega) _)
  have g2:W2.cell? ⟨W1.heap.size+1+1,0,none⟩=some (.slice (some ⟨b0,off0,none⟩) ds.length c0)/\W2.frozen? ⟨W1.heap.size+1+1,0,none⟩=false:=by
   rw [e,<- s2];exact box_in ((Below.refl _ _).alloc (by rw [s3,s2];exact rN _) _)
  have g3:W2.cell? ⟨W1.heap.size+1+1+1,0,none⟩=some (.bool true)/\W2.frozen? ⟨W1.heap.size+1+1+1,0,none⟩=false:=by
   rw [e,<- s3];exact box_in (Below.refl _ _)
  have h0:=HS0.out
  have h1:=B1.out.size
  have h2:=S2.out
  have h3:=HSB.out
  have hb2:Below w.heap.size w W2:=bT BI1.out B2.out
  exact {
   b:=hb2
   s:=SR.out.on (B2.out.block _ hsl)
   xd:=(B2.out.cell (p:=⟨w.heap.size,0,none⟩) (by dsimp only;omega)).trans HZ4.out
   xc:=(B2.out.cell (p:=⟨w.heap.size+1,0,none⟩) (by dsimp only;omega)).trans HZ5.out
   xa:=g0.1
   xb:=⟨_,g1.1,g1.2,rfl⟩
   xn:=⟨_,g2.1,g2.2,fun _=>DsQ.of_input HD.out hb2 (fun b hb=>⟨by omega,by omega⟩)⟩
   xt:=g3
   md:=.inl rfl
   mc:=.inr (.inl rfl)
   ma:=.inr (.inr (.inl rfl))
   mb:=.inr (.inr (.inr (.inl rfl)))
   mn:=.inr (.inr (.inr (.inr (.inl rfl))))
   mt:=.inr (.inr (.inr (.inr (.inr rfl))))
   ml:=fun b hb=>by omega
   lt:=fun b hb=>by omega
   ms:=fun hb=>by omega
   sl:=by omega
   o1:=by omega
   o2:=by omega
   o3:=by omega
   o4:=by omega
   o5:=by omega
   dl:=fun D hD=>by cases hD
   nd:=List.nodup_nil }
 case round =>
  rintro g a W ⟨j39,j40,j41,j42,j60,L,bt,M,better,best,now,k,ov,rfl,HM,HNF,hcase⟩
  rcases hcase with ⟨rfl,rfl,kN,m,rfl,rfl,HK⟩ | ⟨rfl,rfl,HK⟩
  ·obtain ⟨vb,hb1,hb1f,hb2⟩:=HM.out.xb
   obtain ⟨vn,hn1,hn1f,hn2'⟩:=HM.out.xn
   have hn2:=hn2' rfl
   clear hn2'
   obtain ⟨ht,htf⟩:=HM.out.xt
   obtain ⟨an,cn,rfl,_⟩:=hn2.at.shape
   have q5:=HM.out.o5
   have HBV:=Lib.hid hb2
   have HBF:=Lib.hid hb1f
   have HBC:=Lib.hid hb1
   have HNC:=Lib.hid hn1
   have HNV:=Lib.hid hn2
   have HNN:=Lib.hid hn1f
   clear hb2 hb1f hb1 hn2 hn1f
   have x1:∀ u,(W.setCell ⟨bt,0,none⟩ u).cell? ⟨W1.heap.size+1+1,0,none⟩=some (.slice an now.length cn):=fun u=>(World.cell?_of_block (a:=⟨W1.heap.size+1+1,0,none⟩) ((setCell_blk W ⟨bt,0,none⟩ u).2 _ (by dsimp only;omega))).trans hn1
   clear hn1
   go_upto_region 12 with fail
   obtain ⟨W3,hW3⟩:∃ W3,W3=W.setCell ⟨bt,0,none⟩ (.bool false):=⟨_,rfl⟩
   have x2:=x1 (.bool false)
   rw [<- hW3] at x2 |-
   have HW3:=Lib.hid hW3
   clear x1 ht hW3
   have CA0:=answers_c sb (.slice an now.length cn) W3 an now.length cn rfl
   obtain ⟨HS,hHS⟩:∃ HS,HS=W3.heap.size:=⟨_,rfl⟩
   rw [<- hHS] at CA0
   have CA:=Lib.hid CA0
   have HHS:=Lib.hid hHS
   clear CA0 hHS
   go_wp2_with (go_at_call 27;(with_reducible refine CA.out.mono ?_);rintro e W4 ⟨rfl,x0,x1,b4,s4⟩;have X0:=Lib.hid x0;have X1:=Lib.hid x1;have B4:=Lib.hid b4;have S4:=Lib.hid s4;clear x0 x1 b4 s4)
   have hmt:=HM.out.mt
   have hs3:W3.heap.size=W.heap.size:=by rw [HW3.out];exact (setCell_blk _ _ _).1
   have hs4:W4.heap.size=W.heap.size+2:=by rw [S4.out,HHS.out,hs3]
   have SAM:Hid (∀ b,b<W.heap.size->b≠bt->W4.heap[b]?=W.heap[b]?):=fun b hb hne=>(B4.out.block b (by rw [HHS.out,hs3];exact hb)).trans (by rw [HW3.out];exact (setCell_blk W ⟨bt,0,none⟩ _).2 b hne)
   have hltb:=HM.out.lt bt hmt
   have T4:Hid (W4.cell? ⟨bt,0,none⟩=some (.bool false)/\W4.frozen? ⟨bt,0,none⟩=false):=by
    refine ⟨(B4.out.cell (p:=⟨bt,0,none⟩) (by rw [HHS.out,hs3];exact hltb)).trans ?_,(B4.out.frozen (p:=⟨bt,0,none⟩) (by rw [HHS.out,hs3];exact hltb)).trans ?_⟩
    ·rw [HW3.out];exact World.cell?_setCell_same _ _ _ HM.out.xt.1
    ·rw [HW3.out,World.frozen?_setCell];exact HM.out.xt.2
   have hbW:Below w.heap.size W W4:=by
    have h1:Below w.heap.size W W3:=by rw [HW3.out];exact (Below.refl _ _).setCell (p:=⟨bt,0,none⟩) (HM.out.ml bt hmt) _
    exact h1.trans (B4.out.mono (by rw [HHS.out];exact h1.size |> Nat.le_trans HM.out.b.size))
   have BW4:Hid (Below w.heap.size w W4):=HM.out.b.trans hbW
   have hsbt:sb≠bt:=fun e=>HM.out.ms (e ▸ hmt)
   have hsl4:=HM.out.s.lt
   have SR4:=Lib.hid (HM.out.s.on (SAM.out sb hsl4 hsbt))
   have hHS:=HHS.out
   have hS4:=S4.out
   have hxs0:=X0.out
   have hxs1:=X1.out
   have hlow:=HM.out.b.size
   have hmw:=HM.out.ml
   have hml:=HM.out.lt
   have hnf:=HNF.out
   obtain ⟨hse,hor,hbr⟩:=labChk_sound HLC.out
   have HSEQ:Hid (∀ W',Below W4.heap.size W4 W'->W'.heap.size=W4.heap.size+2->SeqM Fence.wide 2 Tryz.prog 42 #[.pointer (some ⟨HS+1,0,none⟩),.pointer (some ⟨HS,0,none⟩)] (fun x=>#[x.1]) (GotI w.heap.size sb vars.length) ownI w.heap.size (AnsDone ps vars o kN now sb (.slice a1 ps.length c1) (.slice a2 vars.length c2) (.slice a3 o.ws.length c3)) (AnsStop ps vars o kN now sb (.slice a1 ps.length c1) (.slice a2 vars.length c2) (.slice a3 o.ws.length c3)) (fun b=>M b\/b=W4.heap.size\/b=W4.heap.size+1) W'):=fun W' hb _=>by
    have hbi:=bT BW4.out hb
    have hq:DsQ (fun b=>¬ (M b\/b=W4.heap.size\/b=W4.heap.size+1)/\b≠sb) W' (.slice an now.length cn) now :=
     (HNV.out.weaken (fun b hb hq=>⟨by rintro (g | g | g);exact hq.1 g;omega;omega,hq.2⟩)).on (by have:=hb.size;omega) (fun b hb' hq=>(hb.block b (by omega)).trans (SAM.out b hb' (fun e=>hq.1 (.inl (e ▸ hmt)))))
    exact answers_seq w W' (HS+1) HS sb (.slice an now.length cn) (.slice a1 ps.length c1) (.slice a2 vars.length c2) (.slice a3 o.ws.length c3) now ps vars o kN _ ⟨HP.out,HV.out,HW.out,hbi,SR4.out.on (hb.block _ (by omega)),(hb.cell (p:=⟨HS,0,none⟩) (by dsimp only;omega)).trans hxs0,(hb.cell (p:=⟨HS+1,0,none⟩) (by dsimp only;omega)).trans hxs1,
     hq,HM.out.sl,by omega,by rintro (g | g | g);exact HM.out.ms g;omega;omega,by rintro (g | g | g);(have:=hml _ g;omega);omega;omega,by rintro b (g | rfl | rfl);exact hmw b g;omega;omega,hnf.2,by rw [hnf.1];exact HVI.out,hvl,HK.out.2.1,hse,hor,hbr⟩ 2
   have o1:=HM.out.o1
   have o2:=HM.out.o2
   have o3:=HM.out.o3
   have o4:=HM.out.o4
   have HS3:=Lib.hid hs3
   have HS4:=Lib.hid hs4
   clear hxs0 hxs1 hse hor hbr hnf hsl4 hbW
   refine (wpIn_wide (n:=3)).1 ?_
   refine wpIn_rangeFunc_M rfl (by decide) (gf:=42) (lb:=#[.pointer (some ⟨HS+1,0,none⟩),.pointer (some ⟨HS,0,none⟩)]) rfl trivial (enters_of Tryz.func42 (by kernel_rfl) rfl)
    (encs:=fun x:Value×List Int=>#[x.1]) (Got:=GotI w.heap.size sb vars.length) (own:=ownI) (n0:=w.heap.size) (M0:=M) HSEQ.out BW4.out.size (fun _=>rfl)
    (fun x W W' h hs hb=>⟨SlAt.ownB h.1 hs (fun b _ e=>hb b e),h.2⟩)
    (fun xs W o' ⟨k,n,ov,h,h'⟩=>⟨k,n,ov,h.on (World.putObj_heap_other (by omega)),h'⟩) (fun xs W o' ⟨n,h,h'⟩=>⟨n,h.on (World.putObj_heap_other (by omega)),h'⟩)
    (fun pre M1 W5=>pre=[]/\M1=M/\W4.heap.size<=W5.heap.size/\∀ b,M b->W5.heap[b]?=W4.heap[b]?)
    (fun c pre M1 W5=>c=.exit 2/\∃ (x:List Int) (vx:Value),pre=[(vx,x)]/\MinX w W4 w.heap.size (W1.heap.size+1) (W1.heap.size+1+1) bt sb M x (lessD ds cost (x.getD at_ 0)) M1 W5)
    (fun pre M1 Wa Wb ⟨e1,e2,h1,h2⟩ hs hb=>⟨e1,e2,Nat.le_trans h1 hs,fun b hm=>(hb b (by rw [e2];exact hm)).trans (h2 b hm)⟩)
    (fun c pre M1 Wa Wb ⟨e1,x,vx,e2,X,Wc,h1,h2,h3⟩ hs hb=>⟨e1,x,vx,e2,X,Wc,h1,Nat.le_trans h2 hs,fun b hm=>(hb b hm).trans (h3 b hm)⟩)
    (fun pre M1 Wa ⟨e1,e2,h1,h2⟩ b hm=>by rw [e2] at hm;have:=hml b hm;omega)
    (fun c pre M1 Wa ⟨e1,x,vx,e2,X,Wc,h1,h2,h3⟩ b hm=>Nat.lt_of_lt_of_le (h1.lt b hm) h2)
    ⟨rfl,rfl,rN _,fun _ _=>rfl⟩
    (fun x=>{ tmps:=#[.slice (some ⟨b0,off0,none⟩) ds.length c0,.slice a1 ps.length c1,.slice a2 vars.length c2,.int .i64 cost,.agg #[.int .i64 o.sel,.int .i64 o.ord,.int .i64 o.br,.slice a3 o.ws.length c3],.int .i64 nodes,.pointer (some ⟨w.heap.size,0,none⟩),undef,undef,.pointer (some ⟨w.heap.size+1,0,none⟩),.pointer (some ⟨w.heap.size+1+1,0,none⟩),undef,.slice none 0 0,.int .i64 0,.pointer (some ⟨sb,0,none⟩),.int .i64 0,.pointer (some ⟨W1.heap.size,0,none⟩),.pointer (some ⟨W1.heap.size+1,0,none⟩),.pointer (some ⟨W1.heap.size+1+1,0,none⟩),.pointer (some ⟨bt,0,none⟩),x.1,.tuple #[.pointer (some ⟨sb,0,none⟩),.int .i64 0],.slice (some ⟨b0,off0,none⟩) ds.length c0,.slice a1 ps.length c1,.slice a2 vars.length c2,.agg #[.int .i64 o.sel,.int .i64 o.ord,.int .i64 o.br,.slice a3 o.ws.length c3],.int .i64 nodes,.tuple #[.pointer (some ⟨sb,0,none⟩),.int .i64 0],.pointer (some ⟨sb,0,none⟩),.int .i64 0,.int .i64 0,.bool false,undef,.slice a2 vars.length c2,.int .i64 cost,.int .i64 at_,.int .i64 at_,.bool (decide ((at_:Int)<0)),.slice (some ⟨b0,off0,none⟩) ds.length c0,.bool true,.pointer (some ⟨sb,0,none⟩),.slice an now.length cn,.func (.func 42) #[] #[.pointer (some ⟨HS+1,0,none⟩),.pointer (some ⟨HS,0,none⟩)],x.1,undef,undef,undef,undef,undef,undef,undef,undef,undef,undef,undef,undef,undef,undef,undef,undef,j60,undef,undef,undef,undef,undef],defers:=[] }) ?assign ?body ?done ?stop
   case assign =>
    clear hs3 hs4 hHS hS4
    intro l x W K hK
    gi_wp2
    exact hK
   case body =>
    clear hs3 hs4 hHS hS4
    rintro l pre M1 ⟨vx,x⟩ W5 ⟨rfl,rfl,hs5,hI⟩ ⟨hxa,hxo,hxl,hxb⟩ hown hsz hbw
    have jc3:(at_:Int)<vars.length:=by omega
    have hx':IsAt W5 vx x:=hxa
    have hxl':x.length=vars.length:=hxl
    clear hxa
    obtain ⟨ax,cx,rfl,_⟩:=IsAt.shape hx'
    obtain ⟨bx,ox,rfl,hxc,hbx,hxz⟩:=IsAt.getR hx' at_ (by omega)
    have hzb:=hxb _ (List.getElem_mem (show at_<x.length by omega))
    have hzg:x.getD at_ 0=x[at_]:=by rw [List.getD_eq_getElem?_getD,List.getElem?_eq_getElem (by omega)];rfl
    obtain ⟨z,hz⟩:∃ z,z=x[at_]:=⟨_,rfl⟩
    rw [<- hz] at hxz hzb hzg
    have ez:IntKind.i64.wrap (z - 1)=z - 1:=by simp [IntKind.wrap,IntKind.bits,IntKind.signed];omega
    have HZG:=Lib.hid hzg
    clear hz hzg hxb
    have c5:∀ b v,M1 b->W4.cell? ⟨b,0,none⟩=some v->W5.cell? ⟨b,0,none⟩=some v:=fun b v hm h=>(World.cell?_of_block (a:=⟨b,0,none⟩) (hI b hm)).trans h
    have f5:∀ b,M1 b->W4.frozen? ⟨b,0,none⟩=false->W5.frozen? ⟨b,0,none⟩=false:=fun b hm h=>(World.frozen?_of_block (a:=⟨b,0,none⟩) (hI b hm)).trans h
    have c4:∀ b v,M1 b->b≠bt->W.cell? ⟨b,0,none⟩=some v->W5.cell? ⟨b,0,none⟩=some v:=fun b v hm hn h=>c5 b v hm ((World.cell?_of_block (a:=⟨b,0,none⟩) (SAM.out b (hml b hm) hn)).trans h)
    have f4:∀ b,M1 b->b≠bt->W.frozen? ⟨b,0,none⟩=false->W5.frozen? ⟨b,0,none⟩=false:=fun b hm hn h=>f5 b hm ((World.frozen?_of_block (a:=⟨b,0,none⟩) (SAM.out b (hml b hm) hn)).trans h)
    have k0:=c4 _ _ HM.out.md (by omega) HM.out.xd
    have k1:=c4 _ _ HM.out.mc (by omega) HM.out.xc
    have k2:=c4 _ _ HM.out.ma (by omega) HM.out.xa
    have k3:=c4 _ _ HM.out.mb (by omega) HBC.out
    have k3f:=f4 _ HM.out.mb (by omega) HBF.out
    have k4:=c4 _ _ HM.out.mn (by omega) HNC.out
    have k4f:=f4 _ HM.out.mn (by omega) HNN.out
    have k5:=c5 _ _ hmt T4.out.1
    have k5f:=f5 _ hmt T4.out.2
    have y5:∀ u,(W5.setCell ⟨W1.heap.size+1,0,none⟩ u).cell? ⟨bt,0,none⟩=some (.bool false):=fun u=>(World.cell?_of_block (a:=⟨bt,0,none⟩) ((setCell_blk W5 ⟨W1.heap.size+1,0,none⟩ u).2 _ (by dsimp only;omega))).trans k5
    have hoN:=Lib.hid hown
    have HI5:=Lib.hid hI
    clear c5 f5 c4 f4 hown hI
    gi_wp2
    obtain ⟨W6,hW6⟩:∃ W6,W6=(W5.setCell ⟨W1.heap.size+1,0,none⟩ (.slice (some ⟨bx,ox,none⟩) vars.length cx)).setCell ⟨bt,0,none⟩ (.bool true):=⟨_,rfl⟩
    rw [<- hW6]
    have hoX:∀ b,ownI (Value.slice (some ⟨bx,ox,none⟩) x.length cx,x) b->b=bx:=fun b h=>by
     have h':some bx=some b:=h
     injection h' with h'
     exact h'.symm
    obtain ⟨hbl,hbM⟩:=hoN.out bx rfl
    obtain ⟨hbn0,hbsb⟩:=hxo bx rfl
    have mbb:=HM.out.mb
    have mbn:=HM.out.mn
    have nbb:bx≠W1.heap.size+1:=fun e=>hbM (e ▸ mbb)
    have nbn:bx≠W1.heap.size+1+1:=fun e=>hbM (e ▸ mbn)
    have nbt:bx≠bt:=fun e=>hbM (e ▸ hmt)
    have lbb:=hml _ mbb
    have lbn:=hml _ mbn
    have lbt:=hml _ hmt
    have wbb:=hmw _ mbb
    have S54:W4.heap.size<=W5.heap.size:=hs5
    have S6:Hid (W6.heap.size=W5.heap.size):=by show _=_;rw [hW6,(setCell_blk _ _ _).1,(setCell_blk _ _ _).1]
    have SAM6:Hid (∀ b,b≠W1.heap.size+1->b≠bt->W6.heap[b]?=W5.heap[b]?):=fun b h1 h2=>by rw [hW6];exact ((setCell_blk _ ⟨bt,0,none⟩ _).2 b h2).trans ((setCell_blk W5 ⟨W1.heap.size+1,0,none⟩ _).2 b h1)
    have B5:Hid (Below w.heap.size w W5):=BW4.out.trans hbw
    have B6:Hid (Below w.heap.size w W6):=by rw [hW6];exact (B5.out.setCell (p:=⟨W1.heap.size+1,0,none⟩) wbb _).setCell (p:=⟨bt,0,none⟩) (hmw _ hmt) _
    have XB6:Hid (W6.cell? ⟨W1.heap.size+1,0,none⟩=some (.slice (some ⟨bx,ox,none⟩) vars.length cx)/\W6.frozen? ⟨W1.heap.size+1,0,none⟩=false):=by
     refine ⟨?_,?_⟩
     ·rw [hW6];exact (World.cell?_of_block (a:=⟨W1.heap.size+1,0,none⟩) ((setCell_blk _ ⟨bt,0,none⟩ _).2 _ (by dsimp only;omega))).trans (World.cell?_setCell_same _ _ _ k3)
     ·rw [hW6,World.frozen?_setCell,World.frozen?_setCell];exact k3f
    have XT6:Hid (W6.cell? ⟨bt,0,none⟩=some (.bool true)/\W6.frozen? ⟨bt,0,none⟩=false):=by
     refine ⟨?_,?_⟩
     ·rw [hW6];exact World.cell?_setCell_same _ _ _ (y5 _)
     ·rw [hW6,World.frozen?_setCell,World.frozen?_setCell];exact k5f
    have XN6:Hid (W6.cell? ⟨W1.heap.size+1+1,0,none⟩=some (.slice an now.length cn)/\W6.frozen? ⟨W1.heap.size+1+1,0,none⟩=false) :=
     ⟨(World.cell?_of_block (a:=⟨W1.heap.size+1+1,0,none⟩) (SAM6.out (W1.heap.size+1+1) (by omega) (by omega))).trans k4,(World.frozen?_of_block (a:=⟨W1.heap.size+1+1,0,none⟩) (SAM6.out (W1.heap.size+1+1) (by omega) (by omega))).trans k4f⟩
    have hd0:=HDC.out W5 B5.out
    have HS6:Hid (∀ W':World,(∀ b,b<W6.heap.size->b≠W1.heap.size+1+1->W'.heap[b]?=W6.heap[b]?)->W'.cell? ⟨w.heap.size,0,none⟩=some (.slice (some ⟨b0,off0,none⟩) ds.length c0)/\W'.cell? ⟨w.heap.size+1,0,none⟩=some (.int .i64 cost)/\W'.cell? ⟨b0,off0+cost,none⟩=some (.slice ad dl.length cd)/\W'.cell? ⟨W1.heap.size,0,none⟩=some (.int .i64 at_)/\W'.cell? ⟨bx,ox+at_,none⟩=some (.int .i64 z)):=fun W' h=>by
     have c:∀ (b o:Nat) v,b<W5.heap.size->b≠W1.heap.size+1->b≠W1.heap.size+1+1->b≠bt->W5.cell? ⟨b,o,none⟩=some v->W'.cell? ⟨b,o,none⟩=some v:=fun b o v h1 h2 h3 h4 hc =>
      (World.cell?_of_block (a:=⟨b,o,none⟩) ((h b (by rw [S6.out];exact h1) h3).trans (SAM6.out b h2 h4))).trans hc
     have g1:=World.block_lt_of_cell? W5 _ k0
     have g2:=World.block_lt_of_cell? W5 _ k1
     have g3:=World.block_lt_of_cell? W5 _ k2
     have g4:=World.block_lt_of_cell? W5 _ hd0.1
     dsimp only at g1 g2 g3 g4
     exact ⟨c _ _ _ g1 (by omega) (by omega) (by omega) k0,c _ _ _ g2 (by omega) (by omega) (by omega) k1,c _ _ _ g4 (by omega) (by omega) (by omega) hd0.1,c _ _ _ g3 (by omega) (by omega) (by omega) k2,c _ _ _ hbl nbb nbn nbt hxz⟩
    have IX:=Lib.hid hx'
    have HXO:=Lib.hid hxo
    have CM:Hid (∀ W' v,Below W6.heap.size W6 W'->RgAt W' v [(-200,z - 1)]->Calls Tryz.prog 34 #[.slice ad dl.length cd,v] W' (RetN (meetL dl [(-200,z - 1)]) W')):=fun W' v hb hv =>
     meet_n _ _ dl [(-200,z - 1)] W' (HDC.out W' (bT B6.out hb)).2 hv hdl (by simp)
    have RL:Hid (RgAt (W6.alloc (.cells #[.int .i64 (-200),.int .i64 (z - 1)] 77)).drew (.slice (some ⟨W6.heap.size,0,none⟩) 1 1) [(-200,z - 1)]) :=
     RgAt.own (rs:=[(-200,z - 1)]) (World.ownsRow_lit (base:=W6.heap.size) W6 #[.int .i64 (-200),.int .i64 (z - 1)] 1 (e:=77) (size:=2) (rN _) (by simp [maxLen]) rfl)
    have B7:Hid (Below W6.heap.size W6 (W6.alloc (.cells #[.int .i64 (-200),.int .i64 (z - 1)] 77)).drew):=(bA _).drew
    have S7:Hid ((W6.alloc (.cells #[.int .i64 (-200),.int .i64 (z - 1)] 77)).drew.heap.size=W5.heap.size+1):=by
     show _=_
     rw [<- S6.out];exact World.size_alloc _ _
    have MLEN:Hid ((meetL dl [(-200,z - 1)]).length<=4096):=Nat.le_trans (normal_len (canon_normal _)) (by decide)
    have HMQ:Hid (∀ b,(b<w.heap.size\/W5.heap.size<=b)->¬ M1 b/\b≠bx/\b≠sb):=fun b hb=>by
     have g1:=HM.out.s.lt
     have g2:=HM.out.sl
     have g3:=HS4.out
     refine ⟨fun hm=>?_,by omega,by omega⟩
     have:=hml b hm
     have:=hmw b hm
     omega
    have HW6:=Lib.hid hW6
    clear hW6 hx' hxo k0 k1 k2 k3 k3f k4 k4f k5 k5f y5 hd0 hxz
    refine wpIn_region_roundK (by kernel_rfl) (noDefer_of (by kernel_rfl)) (S:=fun W=>W.cell? ⟨w.heap.size,0,none⟩=some (.slice (some ⟨b0,off0,none⟩) ds.length c0)/\W.cell? ⟨w.heap.size+1,0,none⟩=some (.int .i64 cost)/\W.cell? ⟨b0,off0+cost,none⟩=some (.slice ad dl.length cd)/\W.cell? ⟨W1.heap.size,0,none⟩=some (.int .i64 at_)/\W.cell? ⟨bx,ox+at_,none⟩=some (.int .i64 z)) ?hS (fun hHeld=>?_)
    case hS=>exact HS6.out _ (fun b _ _=>rfl)
    refine wpAnyH_takeD (i:=0) (d:=some 45) (v:=.slice (some ⟨b0,off0,none⟩) ds.length c0) rfl rfl (by kernel_rfl) (by kernel_rfl) (by kernel_rfl) (fun _ _ _ h=>h) (Or.inl ⟨by rfl,?_⟩) hHeld ?_
    ·intro w hSw;go_simp
    simp only [Act.put,List.setIfInBounds_toArray,List.set_cons_zero,List.set_cons_succ]
    refine wpAnyH_takeD (i:=1) (d:=some 46) (v:=.int .i64 cost) rfl rfl (by kernel_rfl) (by kernel_rfl) (by kernel_rfl) (fun _ _ _ h=>h) (Or.inl ⟨by rfl,?_⟩) hHeld ?_
    ·intro w hSw;go_simp
    simp only [Act.put,List.setIfInBounds_toArray,List.set_cons_zero,List.set_cons_succ]
    refine wpAnyH_takeD (i:=2) (d:=some 47) (v:=.slice (some ⟨b0,off0,none⟩) ds.length c0) rfl rfl (by kernel_rfl) (by kernel_rfl) (by kernel_rfl) (fun _ _ _ h=>h) (Or.inl ⟨by rfl,?_⟩) hHeld ?_
    ·intro w hSw;go_simp
    simp only [Act.put,List.setIfInBounds_toArray,List.set_cons_zero,List.set_cons_succ]
    refine wpAnyH_takeD (i:=3) (d:=some 48) (v:=.int .i64 cost) rfl rfl (by kernel_rfl) (by kernel_rfl) (by kernel_rfl) (fun _ _ _ h=>h) (Or.inl ⟨by rfl,?_⟩) hHeld ?_
    ·intro w hSw;go_simp
    simp only [Act.put,List.setIfInBounds_toArray,List.set_cons_zero,List.set_cons_succ]
    refine wpAnyH_takeD (i:=4) (d:=some 49) (v:=.pointer (some ⟨b0,off0+cost,none⟩)) rfl rfl (by kernel_rfl) (by kernel_rfl) (by kernel_rfl) (fun _ _ _ h=>h) (Or.inl ⟨by rfl,?_⟩) hHeld ?_
    ·intro w hSw;go_simp
    simp only [Act.put,List.setIfInBounds_toArray,List.set_cons_zero,List.set_cons_succ]
    refine wpAnyH_takeD (i:=5) (d:=some 50) (v:=.slice ad dl.length cd) rfl rfl (by kernel_rfl) (by kernel_rfl) (by kernel_rfl) (fun _ _ _ h=>h) (Or.inl ⟨by rfl,?_⟩) hHeld ?_
    ·intro w hSw;go_simp
    simp only [Act.put,List.setIfInBounds_toArray,List.set_cons_zero,List.set_cons_succ]
    refine wpAnyH_takeD (i:=6) (d:=some 51) (v:=.slice (some ⟨bx,ox,none⟩) vars.length cx) rfl rfl (by kernel_rfl) (by kernel_rfl) (by kernel_rfl) (fun _ _ _ h=>h) (Or.inl ⟨by rfl,?_⟩) hHeld ?_
    ·intro w hSw;go_simp
    simp only [Act.put,List.setIfInBounds_toArray,List.set_cons_zero,List.set_cons_succ]
    refine wpAnyH_takeD (i:=7) (d:=some 52) (v:=.int .i64 at_) rfl rfl (by kernel_rfl) (by kernel_rfl) (by kernel_rfl) (fun _ _ _ h=>h) (Or.inl ⟨by rfl,?_⟩) hHeld ?_
    ·intro w hSw;go_simp
    simp only [Act.put,List.setIfInBounds_toArray,List.set_cons_zero,List.set_cons_succ]
    refine wpAnyH_takeD (i:=8) (d:=some 53) (v:=.pointer (some ⟨bx,ox+at_,none⟩)) rfl rfl (by kernel_rfl) (by kernel_rfl) (by kernel_rfl) (fun _ _ _ h=>h) (Or.inl ⟨by rfl,?_⟩) hHeld ?_
    ·intro w hSw;go_simp
    simp only [Act.put,List.setIfInBounds_toArray,List.set_cons_zero,List.set_cons_succ]
    refine wpAnyH_takeD (i:=9) (d:=some 54) (v:=.int .i64 z) rfl rfl (by kernel_rfl) (by kernel_rfl) (by kernel_rfl) (fun _ _ _ h=>h) (Or.inl ⟨by rfl,?_⟩) hHeld ?_
    ·intro w hSw;go_simp
    simp only [Act.put,List.setIfInBounds_toArray,List.set_cons_zero,List.set_cons_succ]
    refine wpAnyH_takeD (i:=10) (d:=some 55) (v:=.int .i64 (z - 1)) rfl rfl (by kernel_rfl) (by kernel_rfl) (by kernel_rfl) (fun _ _ _ h=>h) (Or.inl ⟨by rfl,?_⟩) hHeld ?_
    ·intro w hSw;go_simp
    simp only [Act.put,List.setIfInBounds_toArray,List.set_cons_zero,List.set_cons_succ]
    refine wpAnyH_takeD (i:=11) (d:=some 56) (v:=.agg #[.int .i64 (-200),.int .i64 (z - 1)]) rfl rfl (by kernel_rfl) (by kernel_rfl) (by kernel_rfl) (fun _ _ _ h=>h) (Or.inl ⟨by rfl,?_⟩) hHeld ?_
    ·intro w hSw;go_simp
    simp only [Act.put,List.setIfInBounds_toArray,List.set_cons_zero,List.set_cons_succ]
    clear hHeld
    refine wpAnyH_ready (rs:=[12]) (by kernel_rfl) (by simp) ?_
    refine AllReadyH.cons rfl (fun K hK=>?_) AllReadyH.nil
    go_simp
    refine hK.out _ _ ?_ (fun hHeld=>?_)
    ·exact HS6.out _ (fun b hb _=>B7.out.block b hb)
    clear hK K
    try simp only [Act.put,List.setIfInBounds_toArray,List.set_cons_zero,List.set_cons_succ]
    clear hHeld
    refine wpAnyH_ready (rs:=[13]) (by kernel_rfl) (by simp) ?_
    refine AllReadyH.cons rfl (fun K hK=>?_) AllReadyH.nil
    go_simp
    go_at_call 34
    refine (CM.out _ _ B7.out RL.out).mono ?_
    rintro e W8 ⟨am,cm,rfl,rm,b8,nm⟩
    have B8:=Lib.hid b8
    have RM:=Lib.hid rm
    have NM:=Lib.hid nm
    have B68:Hid (Below W6.heap.size W6 W8):=bT B7.out B8.out
    clear b8 rm nm
    go_simp
    refine hK.out _ _ ?_ (fun hHeld=>?_)
    ·exact HS6.out _ (fun b hb _=>B68.out.block b hb)
    clear hK K
    try simp only [Act.put,List.setIfInBounds_toArray,List.set_cons_zero,List.set_cons_succ]
    clear hHeld
    have QD:Hid (DsQ (fun b=>(b<w.heap.size\/W5.heap.size<=b)/\¬ M1 b/\b≠bx/\b≠sb) W8 (.slice (some ⟨b0,off0,none⟩) ds.length c0) ds):=DsQ.of_input HD.out (bT B6.out B68.out) (fun b hb=>⟨.inl hb,HMQ.out b (.inl hb)⟩)
    have QM:Hid (RgQ (fun b=>(b<w.heap.size\/W5.heap.size<=b)/\¬ M1 b/\b≠bx/\b≠sb) W8 (.slice am (meetL dl [(-200,z - 1)]).length cm) (meetL dl [(-200,z - 1)])):=RgQ.of_new RM.out NM.out (fun b hb=>by
     have h1:=S7.out
     exact ⟨.inr (by omega),HMQ.out b (.inr (by omega))⟩)
    have CW:Hid (Calls Tryz.prog 33 #[.slice (some ⟨b0,off0,none⟩) ds.length c0,.int .i64 cost,.slice am (meetL dl [(-200,z - 1)]).length cm] W8 (RetDn (fun b=>(b<w.heap.size\/W5.heap.size<=b)/\¬ M1 b/\b≠bx/\b≠sb) ds.length (ds.set cost (meetL dl [(-200,z - 1)])) W8)):=with_n _ _ cost _ ds _ W8 QD.out QM.out hcl (by have:=HIN.out.n;omega)
    refine wpAnyH_ready (rs:=[14]) (by kernel_rfl) (by simp) ?_
    refine AllReadyH.cons rfl (fun K hK=>?_) AllReadyH.nil
    go_simp
    go_at_call 33
    refine CW.out.mono ?_
    rintro e W9 ⟨g9,c9,us9,rfl,i9,b9⟩
    have B9:=Lib.hid b9
    have I9:=Lib.hid i9
    have B69:Hid (Below W6.heap.size W6 W9):=bT B68.out B9.out
    clear b9 i9
    go_simp
    refine hK.out _ _ ?_ (fun hHeld=>?_)
    ·exact HS6.out _ (fun b hb _=>B69.out.block b hb)
    clear hK K
    try simp only [Act.put,List.setIfInBounds_toArray,List.set_cons_zero,List.set_cons_succ]
    clear hHeld
    have lb6:W1.heap.size+1+1<W6.heap.size:=by
     have h4:=HS4.out
     rw [S6.out];omega
    have xn9:W9.cell? ⟨W1.heap.size+1+1,0,none⟩=some (.slice an now.length cn):=(B69.out.cell (p:=⟨W1.heap.size+1+1,0,none⟩) lb6).trans XN6.out.1
    have xf9:W9.frozen? ⟨W1.heap.size+1+1,0,none⟩=false:=(B69.out.frozen (p:=⟨W1.heap.size+1+1,0,none⟩) lb6).trans XN6.out.2
    refine wpAnyH_ready (rs:=[15]) (by kernel_rfl) (by simp) ?_
    refine AllReadyH.cons rfl (fun K hK=>?_) AllReadyH.nil
    go_simp
    obtain ⟨Wb,hWb⟩:∃ Wb,Wb=W9.setCell ⟨W1.heap.size+1+1,0,none⟩ (.slice (some ⟨g9,0,none⟩) ds.length c9):=⟨_,rfl⟩
    rw [<- hWb]
    have SAMB:Hid (∀ b,b<W6.heap.size->b≠W1.heap.size+1+1->Wb.heap[b]?=W6.heap[b]?):=fun b hb hn=>by rw [hWb];exact ((setCell_blk W9 ⟨W1.heap.size+1+1,0,none⟩ _).2 b hn).trans (B69.out.block b hb)
    refine hK.out _ _ ?_ (fun hHeld=>?_)
    ·exact HS6.out _ SAMB.out
    clear hK K
    try simp only [Act.put,List.setIfInBounds_toArray,List.set_cons_zero,List.set_cons_succ]
    clear hHeld
    refine wpAnyH_done (by kernel_rfl) ?_ _
    have SB:Hid (Wb.heap.size=W9.heap.size):=by show _=_;rw [hWb,(setCell_blk _ _ _).1]
    have BB:Hid (Below w.heap.size w Wb):=by rw [hWb];exact (bT B6.out B69.out).setCell (p:=⟨W1.heap.size+1+1,0,none⟩) (hmw _ mbn) _
    have BB0:Hid (Below 0 W5 Wb):=by
     have h1:Below 0 W5 W6:=by rw [HW6.out];exact ((Below.refl 0 W5).setCell (p:=⟨W1.heap.size+1,0,none⟩) (Nat.zero_le _) _).setCell (p:=⟨bt,0,none⟩) (Nat.zero_le _) _
     rw [hWb];exact (h1.trans (B69.out.mono (Nat.zero_le _))).setCell (p:=⟨W1.heap.size+1+1,0,none⟩) (Nat.zero_le _) _
    have XNB:Hid (Wb.cell? ⟨W1.heap.size+1+1,0,none⟩=some (.slice (some ⟨g9,0,none⟩) ds.length c9)/\Wb.frozen? ⟨W1.heap.size+1+1,0,none⟩=false):=by
     refine ⟨?_,?_⟩
     ·rw [hWb];exact World.cell?_setCell_same _ _ _ xn9
     ·rw [hWb,World.frozen?_setCell];exact xf9
    have HWB:=Lib.hid hWb
    clear hWb xn9 xf9
    gi_wp2
    have LES:lessD ds cost (x.getD at_ 0)=ds.set cost (meetL dl [(-200,z - 1)]):=by unfold lessD;rw [HZG.out,HDG.out]
    have h4:=HS4.out
    have h6:=S6.out
    have hsz9:W6.heap.size<=Wb.heap.size:=by rw [SB.out];exact B69.out.size
    have SAME:∀ b,b<W5.heap.size->b≠W1.heap.size+1->b≠W1.heap.size+1+1->b≠bt->Wb.heap[b]?=W5.heap[b]?:=fun b hb n1 n2 n3=>(SAMB.out b (by rw [S6.out];exact hb) n2).trans (SAM6.out b n1 n3)
    have hvx:vars.length=x.length:=hxl'.symm
    refine ⟨fun b=>(M1 b\/b=bx)\/(W5.heap.size<=b/\b<Wb.heap.size),fun b hb=>?_,⟨BB0.out,fun b hb hn=>?_⟩,rfl,x,_,rfl,(fun b=>b=bx),Wb,?_,rN _,fun _ _=>rfl⟩
    ·rcases hb with (g | g) | g
     ·exact .inl (.inl g)
     ·exact .inl (.inr (by rw [g];rfl))
     ·exact .inr g.1
    ·exact SAME b hb (fun e=>hn (.inl (by rw [e];exact mbb))) (fun e=>hn (.inl (by rw [e];exact mbn))) (fun e=>hn (.inl (by rw [e];exact hmt)))
    ·exact {
      b:=BB.out
      up:=fun b h=>.inl (.inl h)
      same:=fun b hm n1 n2 n3=>(SAME b (by have:=hml b hm;omega) n1 n2 n3).trans (HI5.out b hm)
      xx:=fun b e=>by rw [e];exact ⟨.inl (.inr rfl),hbM,hbsb⟩
      xb:=⟨.slice (some ⟨bx,ox,none⟩) vars.length cx,(World.cell?_of_block (a:=⟨W1.heap.size+1,0,none⟩) (SAMB.out (W1.heap.size+1) (by omega) (by omega))).trans XB6.out.1,(World.frozen?_of_block (a:=⟨W1.heap.size+1,0,none⟩) (SAMB.out (W1.heap.size+1) (by omega) (by omega))).trans XB6.out.2,by
       rw [hvx]
       exact SlAt.ownB IX.out (by omega) (fun b hb e=>by
        rw [hoX b e]
        exact SAME bx hbl nbb nbn nbt),fun b e=>by
         have e':some bx=some b:=e
         injection e' with e'
         exact e'.symm⟩
      xn:=⟨_,XNB.out.1,XNB.out.2,by
       rw [LES]
       have hq:=DsIn.q I9.out (fun b hb=>by
        have g1:=S7.out
        have g2:=B8.out.size
        exact ⟨.inr (by omega),HMQ.out b (.inr (by omega))⟩)
       refine (hq.weaken (fun b hb hq=>?_)).on (Nat.le_of_eq SB.out.symm) (fun b hb hq=>?_)
       ·refine ⟨?_,hq.2⟩
        rcases hq.1 with g | g
        ·exact .inl g
        ·exact .inr (.inr ⟨g,by rw [SB.out];exact hb⟩)
       ·rw [HWB.out]
        exact (setCell_blk W9 ⟨W1.heap.size+1+1,0,none⟩ _).2 b (fun e=>hq.2.1 (by dsimp only at e;rw [e];exact mbn))⟩
      xt:=⟨(World.cell?_of_block (a:=⟨bt,0,none⟩) (SAMB.out bt (by omega) (by omega))).trans XT6.out.1,(World.frozen?_of_block (a:=⟨bt,0,none⟩) (SAMB.out bt (by omega) (by omega))).trans XT6.out.2⟩
      ml:=fun b hb=>by
       have g0:=B5.out.size
       rcases hb with (g | g) | g
       ·exact hmw b g
       ·omega
       ·omega
      lt:=fun b hb=>by
       rcases hb with (g | g) | g
       ·have:=hml b g;omega
       ·omega
       ·exact g.2 }
   case done =>
    clear hs3 hs4 hHS hS4
    rintro D xs M1 W5 ⟨k5,n5,ov5,hs,_,hr⟩ ⟨rfl,rfl,hs5,hI⟩ hK hDl hDm hB
    have hr0:findR ps vars o 1 kN [now]=([],n5,ov5):=hr 0
    obtain ⟨m',rfl⟩:∃ m',m=m'+1:=⟨m - 1,by have:=HK.out.1;omega⟩
    have HRR:Hid (R=(best,ov5)):=by show _=_;rw [<- HK.out.2.2];exact minP_stop hr0
    have kt:=(World.cell?_of_block (a:=⟨bt,0,none⟩) (hI bt hmt)).trans T4.out.1
    have HSX:=Lib.hid hs
    have HB5:=Lib.hid hB
    have HI5:=Lib.hid hI
    clear hr hr0 hs hB hI
    go_wp2
    have h4:=HS4.out
    have mbb:=HM.out.mb
    have mbn:=HM.out.mn
    refine ⟨0,by omega,_,_,_,_,_,D::L,W5.heap.size,(fun b=>(M1 b\/b=D)\/b=W5.heap.size),false,best,now,k5,ov5,rfl,?_,HNF,.inr ⟨rfl,rfl,HRR⟩⟩
    exact MinW.next HM.out (BW4.out.trans HB5.out) HSX.out (fun b h=>h) (fun b hm n1 n2 n3=>(HI5.out b hm).trans (SAM.out b (hml b hm) n3)) hK hDm (by omega) (fun b hm=>⟨hmw b hm,by have:=hml b hm;omega⟩) HM.out.ms
     ⟨vb,(World.cell?_of_block (a:=⟨W1.heap.size+1,0,none⟩) ((HI5.out _ mbb).trans (SAM.out _ (hml _ mbb) (by omega)))).trans HBC.out,(World.frozen?_of_block (a:=⟨W1.heap.size+1,0,none⟩) ((HI5.out _ mbb).trans (SAM.out _ (hml _ mbb) (by omega)))).trans HBF.out,by
      have hbv:=HBV.out
      cases best with
      | none=>exact hbv
      | some x=>exact ⟨SlAt.ownB hbv.1 (by omega) (fun b hb e=>(HI5.out b (hbv.2 b e).1).trans (SAM.out b hb (hbv.2 b e).2.2.2.1)),hbv.2⟩⟩
     ⟨_,(World.cell?_of_block (a:=⟨W1.heap.size+1+1,0,none⟩) ((HI5.out _ mbn).trans (SAM.out _ (hml _ mbn) (by omega)))).trans HNC.out,(World.frozen?_of_block (a:=⟨W1.heap.size+1+1,0,none⟩) ((HI5.out _ mbn).trans (SAM.out _ (hml _ mbn) (by omega)))).trans HNN.out,fun h=>by cases h⟩ _
   case stop =>
    clear hs3 hs4 hHS hS4
    rintro D c pre M1 W5 ⟨n5,hs,hr⟩ ⟨rfl,x,vx,rfl,X,Wb,hE,hsz,hI⟩ hK hDl hDm hB
    have hr0:findR ps vars o 1 kN [now]=([x],n5,false):=hr
    have hlt:n5<kN:=by
     have h:=(findR_less ps vars o kN 1 [now]).2
     rw [hr0] at h
     exact h (by simp)
    obtain ⟨m',rfl⟩:∃ m',m=m'+1:=⟨m - 1,by have:=HK.out.1;omega⟩
    have HRR:Hid (minP ps vars o at_ cost ds m' n5 (lessD ds cost (x.getD at_ 0)) (some x)=R):=by show _=_;rw [<- HK.out.2.2];exact (minP_more hr0).symm
    have kt:=(World.cell?_of_block (a:=⟨bt,0,none⟩) (hI bt (hE.up bt hmt))).trans hE.xt.1
    have HSX:=Lib.hid hs
    have HB5:=Lib.hid hB
    have HI5:=Lib.hid hI
    have HE:=Lib.hid hE
    clear hr hr0 hs hB hI hE
    refine wpIn_exit ?_
    go_wp2
    have h4:=HS4.out
    have mbb:=HM.out.mb
    have mbn:=HM.out.mn
    obtain ⟨vx',e1,e2,e3,e4⟩:=HE.out.xb
    obtain ⟨vn',f1,f2,f3⟩:=HE.out.xn
    have hXM:∀ b,X b->¬ M b:=fun b h=>(HE.out.xx b h).2.1
    refine ⟨n5+1,by omega,_,_,_,_,_,D::L,W5.heap.size,(fun b=>((M b\/X b)\/b=D)\/b=W5.heap.size),true,some x,lessD ds cost (x.getD at_ 0),n5,false,rfl,?_,Lib.hid ⟨lessD_len _ _ _,HIN.out.less _ _⟩,.inl ⟨rfl,rfl,n5,m',rfl,rfl,Lib.hid ⟨by have:=HK.out.1;omega,by have:=HK.out.2.1;omega,HRR.out⟩⟩⟩
    have hbw:=BW4.out.trans HB5.out
    exact MinW.next (M1:=fun b=>M b\/X b) (best':=some x) HM.out hbw HSX.out (fun b h=>.inl h) (fun b hm n1 n2 n3=>(HI5.out b (HE.out.up b hm)).trans ((HE.out.same b hm n1 n2 n3).trans (SAM.out b (hml b hm) n3))) hK
     (by rintro (g | g);exact hDm (HE.out.up D g);exact hDm (HE.out.xx D g).1) (by omega)
     (fun b hm=>by
      have hm':M1 b:=by rcases hm with g | g;exact HE.out.up b g;exact (HE.out.xx b g).1
      exact ⟨HE.out.ml b hm',Nat.lt_of_lt_of_le (HE.out.lt b hm') hsz⟩)
     (by rintro (g | g);exact HM.out.ms g;exact (HE.out.xx sb g).2.2 rfl)
     ⟨vx',(World.cell?_of_block (a:=⟨W1.heap.size+1,0,none⟩) (HI5.out _ (HE.out.up _ mbb))).trans e1,(World.frozen?_of_block (a:=⟨W1.heap.size+1,0,none⟩) (HI5.out _ (HE.out.up _ mbb))).trans e2,
      SlAt.ownB e3 hsz (fun b hb e=>HI5.out b (HE.out.xx b (e4 b e)).1),fun b e=>⟨.inr (e4 b e),fun e'=>hXM b (e4 b e) (e' ▸ mbb),fun e'=>hXM b (e4 b e) (e' ▸ mbn),fun e'=>hXM b (e4 b e) (e' ▸ hmt),fun e'=>hXM b (e4 b e) (HM.out.dl b e').2.1⟩⟩
     ⟨vn',(World.cell?_of_block (a:=⟨W1.heap.size+1+1,0,none⟩) (HI5.out _ (HE.out.up _ mbn))).trans f1,(World.frozen?_of_block (a:=⟨W1.heap.size+1+1,0,none⟩) (HI5.out _ (HE.out.up _ mbn))).trans f2,fun _ =>
      (f3.on hsz (fun b hb hq=>by
       rcases hq.1 with g | g
       ·exact (hbw.block b g).trans (HE.out.b.block b g).symm
       ·exact HI5.out b g)).weaken (fun b hb hq=>⟨by rintro (g | g);exact hq.2.1 g;exact hq.2.2.1 g,hq.2.2.2,fun e=>by
        rcases hq.1 with g | g
        ·omega
        ·exact hDm (e ▸ g)⟩)⟩ _
  ·obtain ⟨vb,hb1,_,hb2⟩:=HM.out.xb
   obtain ⟨ht,_⟩:=HM.out.xt
   have c7:=HM.out.s.c7
   have HBV:=Lib.hid hb2
   clear hb2
   cases ov with
   | true =>
    go_wp2
    refine leaves_marks (c:=w.heap.size) L W (fun D hD=>⟨(HM.out.dl D hD).1,HM.out.ml D (HM.out.dl D hD).2.1⟩) HM.out.nd HM.out.b.size (fun W' hs hb hk=>?_)
    refine ⟨_,by simp [results,Tryz.results21,go_sem];rfl,?_⟩
    rw [<- HR.out,HK.out]
    exact ⟨HM.out.b.trans hb,.inl ⟨rfl,rfl⟩⟩
   | false =>
    go_wp2
    refine leaves_marks (c:=w.heap.size) L W (fun D hD=>⟨(HM.out.dl D hD).1,HM.out.ml D (HM.out.dl D hD).2.1⟩) HM.out.nd HM.out.b.size (fun W' hs hb hk=>?_)
    refine ⟨_,by simp [results,Tryz.results21,go_sem];rfl,?_⟩
    rw [<- HR.out,HK.out]
    refine ⟨HM.out.b.trans hb,.inr ⟨rfl,vb,rfl,?_⟩⟩
    cases best with
    | none=>exact .inl ⟨rfl,HBV.out⟩
    | some x=>exact .inr ⟨x,rfl,SlAt.ownB HBV.out.1 (Nat.le_of_eq hs.symm) (fun b _ e=>hk b (HBV.out.2 b e).2.2.2.2)⟩
end
end Go.Proofs.YtaekdgikgbdnnaaGreat
