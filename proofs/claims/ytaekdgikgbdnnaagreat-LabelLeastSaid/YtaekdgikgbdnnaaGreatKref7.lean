/-
  The reference's Once of layer 16, of a constraint of kind 4, walked (printed by genrf5.py).
-/
import Derived.Test.YtaekdgikgbdnnaaGreatKref5
namespace Go.Proofs.YtaekdgikgbdnnaaGreat
section
open Go.RowKit
theorem World.heap_size_alloc' (w:World) (o:Obj):(w.alloc o).heap.size=w.heap.size+1:=by simp
theorem far4 {w:World} {v:Value} {zs:List Int} (h:IsAt w v zs) {b:Nat} (hb:v.ownBlock≠some b) (u0 u1 u2 u3:Value):IsAt ((((w.setCell ⟨b,0,none⟩ u0).setCell ⟨b,1,none⟩ u1).setCell ⟨b,2,none⟩ u2).setCell ⟨b,3,none⟩ u3) v zs :=
 (((h.far (a:=⟨b,0,none⟩) hb u0).far (a:=⟨b,1,none⟩) hb u1).far (a:=⟨b,2,none⟩) hb u2).far (a:=⟨b,3,none⟩) hb u3
theorem chain4 {B b:Nat} {w w':World} (hB:B<=b) (h:Below B w w') (u0 u1 u2 u3:Value):Below B w ((((w'.setCell ⟨b,0,none⟩ u0).setCell ⟨b,1,none⟩ u1).setCell ⟨b,2,none⟩ u2).setCell ⟨b,3,none⟩ u3) :=
 (((h.setCell (p:=⟨b,0,none⟩) hB u0).setCell (p:=⟨b,1,none⟩) hB u1).setCell (p:=⟨b,2,none⟩) hB u2).setCell (p:=⟨b,3,none⟩) hB u3
set_option maxRecDepth 100000
set_option maxHeartbeats 6400000
theorem refOnce4_c (va vb vv vds:Value) (rel c x y z:Int) (coef vars vs:List Int) (ds:Ds) (w:World) (h0:IsAt w va coef) (h1:IsAt w vb vars) (h2:IsAt w vv vs) (hd:DsAt w vds ds)
  (hf:(PL.mk 4 rel c x y z coef vars vs).Fine ds) (hdl:ds.length<=4096) (hdm:∀ d∈ds,d.length<=4096) (hl1:vars.length<=4095) (hl2:vs.length<=4095) :
  Calls Tryz.prog 74 #[propV 4 va vb rel c x y z vv,vds] w (RetF (onceP (PL.mk 4 rel c x y z coef vars vs) ds) w):=by
 obtain ⟨i0,hi0,hz0,hz1,hz2⟩:=info_parts Tryz.infoRgs
 rw [<- once_ref (PL.mk 4 rel c x y z coef vars vs) ds hf.good]
 obtain ⟨a0,c0,rfl,_⟩:=IsAt.shape h0
 obtain ⟨a1,c1,rfl,_⟩:=IsAt.shape h1
 obtain ⟨a2,c2,rfl,_⟩:=IsAt.shape h2
 have hfn:=fine_norm hf
 have HD:=hD hd
 have HDL:=hD hdm
 have HWN:Hid (AllN (ds.map norm)):=allN_norm ds
 have HWL:Hid ((ds.map norm).length=ds.length):=by show _=_;simp
 have HLV:Hid (∀ v∈(PL.mk 4 rel c x y z coef vars vs).all,0<=v/\v.toNat<ds.length):=hf.vars
 have HLL:Hid ((PL.mk 4 rel c x y z coef vars vs).all.length<=4096):=by
  show (allL 4 vars x y z vs).length<=4096
  simp [allL];omega
 have CA:Hid (∀ W,Below w.heap.size w W->Calls Tryz.prog 59 #[.agg #[.int .i64 4,.slice a0 coef.length c0,.slice a1 vars.length c1,.int .i64 rel,.int .i64 c,.int .i64 x,.int .i64 y,.int .i64 z,.slice a2 vs.length c2]] W fun e w'=>∃ ao cap,e=.returned (.slice ao (PL.mk 4 rel c x y z coef vars vs).all.length cap)/\IsAt w' (.slice ao (PL.mk 4 rel c x y z coef vars vs).all.length cap) (PL.mk 4 rel c x y z coef vars vs).all/\Below W.heap.size W w'):=fun W h =>
  all_c 4 _ _ _ rel c x y z coef vars vs W (h0.below h) (h1.below h) (h2.below h) (by omega) (by omega)
 have HRN:Hid (anyNil (PL.mk 4 rel c x y z coef vars vs).all (ds.map norm)=true->refOnceP (PL.mk 4 rel c x y z coef vars vs) ds=none):=fun h=>by unfold refOnceP;rw [if_pos h]
 have HGS:Hid (∀ (i:Nat) (hi:i<(PL.mk 4 rel c x y z coef vars vs).all.length) (out:Ds),(PL.mk 4 rel c x y z coef vars vs).all[i].toNat<out.length->seqGo ((cutsTo (PL.mk 4 rel c x y z coef vars vs) (ds.map norm) ((PL.mk 4 rel c x y z coef vars vs).says (ds.map norm)) (PL.mk 4 rel c x y z coef vars vs).all.length).drop i) out=if meetL (domOf out (PL.mk 4 rel c x y z coef vars vs).all[i]) (cutL (PL.mk 4 rel c x y z coef vars vs) (ds.map norm) ((PL.mk 4 rel c x y z coef vars vs).says (ds.map norm)) i (domOf (ds.map norm) (PL.mk 4 rel c x y z coef vars vs).all[i]))=[] then none
   else seqGo ((cutsTo (PL.mk 4 rel c x y z coef vars vs) (ds.map norm) ((PL.mk 4 rel c x y z coef vars vs).says (ds.map norm)) (PL.mk 4 rel c x y z coef vars vs).all.length).drop (i+1)) (out.set (PL.mk 4 rel c x y z coef vars vs).all[i].toNat (meetL (domOf out (PL.mk 4 rel c x y z coef vars vs).all[i]) (cutL (PL.mk 4 rel c x y z coef vars vs) (ds.map norm) ((PL.mk 4 rel c x y z coef vars vs).says (ds.map norm)) i (domOf (ds.map norm) (PL.mk 4 rel c x y z coef vars vs).all[i]))))):=fun i hi out hv=>seqGo_step hi hv
 have HGE:Hid (∀ out,seqGo ((cutsTo (PL.mk 4 rel c x y z coef vars vs) (ds.map norm) ((PL.mk 4 rel c x y z coef vars vs).says (ds.map norm)) (PL.mk 4 rel c x y z coef vars vs).all.length).drop (PL.mk 4 rel c x y z coef vars vs).all.length) out=some out):=fun _=>seqGo_end
 have HCN:Hid (∀ i D,(cutL (PL.mk 4 rel c x y z coef vars vs) (ds.map norm) ((PL.mk 4 rel c x y z coef vars vs).says (ds.map norm)) i D).length<=201):=fun i D=>canon_len _
 have CCUT0:Hid (anyNil (PL.mk 4 rel c x y z coef vars vs).all (ds.map norm)=false->∀ W,Below w.heap.size w W->∀ (i:Nat) (D:List Rg) (vw vd:Value),DsAt W vw (ds.map norm)->RgAt W vd D->Normal D->Calls Tryz.prog 96 #[.agg #[.int .i64 4,.slice a0 coef.length c0,.slice a1 vars.length c1,.int .i64 rel,.int .i64 c,.int .i64 x,.int .i64 y,.int .i64 z,.slice a2 vs.length c2],vw,.int .i64 i,vd] W (RetN (cutL (PL.mk 4 rel c x y z coef vars vs) (ds.map norm) ((PL.mk 4 rel c x y z coef vars vs).says (ds.map norm)) i D) W)):=fun hne W h i D vw vd hw hd hN =>
  refCut_c (PL.mk 4 rel c x y z coef vars vs) _ _ _ vw vd (ds.map norm) i D W (h0.below h) (h1.below h) (h2.below h) hw hd hN hfn (allN_norm ds) hne (by simpa using hdl) (by simp)
 have hlx:=hf.vars x (by simp [PL.all,allL])
 obtain ⟨nx,rfl⟩:=Int.eq_ofNat_of_zero_le hlx.1
 have hnx:nx<ds.length:=by have:=hlx.2;simpa using this
 have HONE:Hid ((PL.mk 4 rel c nx y z coef vars vs).one (ds.map norm)=(inD 1&&memL (norm ds[nx]) 1)/\(PL.mk 4 rel c nx y z coef vars vs).nought (ds.map norm)=(inD 0&&memL (norm ds[nx]) 0)):=by
  have e:domOf (ds.map norm) (nx:Int)=norm ds[nx]:=by rw [domOf_nat (by simpa using hnx)];simp
  unfold PL.one PL.nought
  dsimp only
  rw [e];exact ⟨rfl,rfl⟩
 have CHX:Hid (∀ W v n,RgAt W v (norm ds[nx])->Calls Tryz.prog 48 #[v,.int .i64 n] W fun e w'=>e=.returned (.bool (inD n&&memL (norm ds[nx]) n))/\W=w'):=fun W v n h=>refHas_c v _ n W h (Nat.le_trans (norm_len _) (by decide))
 have HRO:Hid (anyNil (PL.mk 4 rel c nx y z coef vars vs).all (ds.map norm)=false->(PL.mk 4 rel c nx y z coef vars vs).one (ds.map norm)=(PL.mk 4 rel c nx y z coef vars vs).nought (ds.map norm)->refOnceP (PL.mk 4 rel c nx y z coef vars vs) ds=seqGo ((cutsTo (PL.mk 4 rel c nx y z coef vars vs) (ds.map norm) ((PL.mk 4 rel c nx y z coef vars vs).says (ds.map norm)) (PL.mk 4 rel c nx y z coef vars vs).all.length).drop 0) (ds.map norm)):=fun h he=>by unfold refOnceP refGoP;rw [if_neg (by rw [h];decide),if_neg (by simp),if_neg (by rintro ⟨_,h2⟩;exact h2 he)];rfl
 have HRB:Hid (anyNil (PL.mk 4 rel c nx y z coef vars vs).all (ds.map norm)=false->(PL.mk 4 rel c nx y z coef vars vs).one (ds.map norm)=true->(PL.mk 4 rel c nx y z coef vars vs).nought (ds.map norm)=false->(onceL rel c (ds.map norm) (coef.zip vars)=none->refOnceP (PL.mk 4 rel c nx y z coef vars vs) ds=none)/\∀ m,onceL rel c (ds.map norm) (coef.zip vars)=some m->refOnceP (PL.mk 4 rel c nx y z coef vars vs) ds=seqGo ((cutsTo (PL.mk 4 rel c nx y z coef vars vs) (ds.map norm) ((PL.mk 4 rel c nx y z coef vars vs).says (ds.map norm)) (PL.mk 4 rel c nx y z coef vars vs).all.length).drop 0) m):=fun h h1 h2=>by
  unfold refOnceP refGoP PL.linQ
  rw [if_neg (by rw [h];decide),if_neg (by simp),if_pos ⟨rfl,by rw [h1,h2];decide⟩,h2,if_neg (by decide)]
  exact ⟨fun e=>by dsimp only;rw [e],fun m e=>by dsimp only;rw [e];rfl⟩
 have HRC:Hid (anyNil (PL.mk 4 rel c nx y z coef vars vs).all (ds.map norm)=false->(PL.mk 4 rel c nx y z coef vars vs).one (ds.map norm)=false->(PL.mk 4 rel c nx y z coef vars vs).nought (ds.map norm)=true->(onceL (notRel rel) (notC rel c) (ds.map norm) ((notCoef rel coef).zip vars)=none->refOnceP (PL.mk 4 rel c nx y z coef vars vs) ds=none)/\∀ m,onceL (notRel rel) (notC rel c) (ds.map norm) ((notCoef rel coef).zip vars)=some m->refOnceP (PL.mk 4 rel c nx y z coef vars vs) ds=seqGo ((cutsTo (PL.mk 4 rel c nx y z coef vars vs) (ds.map norm) ((PL.mk 4 rel c nx y z coef vars vs).says (ds.map norm)) (PL.mk 4 rel c nx y z coef vars vs).all.length).drop 0) m):=fun h h1 h2=>by
  unfold refOnceP refGoP PL.linQ
  rw [if_neg (by rw [h];decide),if_neg (by simp),if_pos ⟨rfl,by rw [h1,h2];decide⟩,h2,if_pos rfl]
  exact ⟨fun e=>by dsimp only;rw [e],fun m e=>by dsimp only;rw [e];rfl⟩
 have HOS:Hid (∀ rel c ps r,onceL rel c (ds.map norm) ps=some r->(∀ p∈ps,p.2∈vars)->r.length=ds.length/\AllN r):=fun rel c ps r h hps=>by
  have:=once_spec rel c (ds.map norm) (allN_norm ds) ps (fun p hp=>(hfn.vars p.2 (by simp only [PL.all,allL];simp;exact .inr (hps p hp))).2) r h
  exact ⟨by rw [this.1];simp,this.2.1⟩
 have CLO:Hid (∀ W v,Below w.heap.size w W->DsAt W v (ds.map norm)->Calls Tryz.prog 94 #[.agg #[.slice a0 coef.length c0,.slice a1 vars.length c1,.int .i64 rel,.int .i64 c],v] W (RetF (onceL rel c (ds.map norm) (coef.zip vars)) W)):=fun W v h hv=>by
  obtain ⟨q1,q2,q3,q4,q5⟩:=hfn.lin (.inr rfl)
  exact refOnce_c _ _ _ rel c coef vars (ds.map norm) W (h0.below h) (h1.below h) hv q1 q2 (by dsimp only at q3;omega) q4 (by simpa using hdl) q5
 have CLN:Hid (∀ W v v0 v1,IsAt W v0 (notCoef rel coef)->IsAt W v1 vars->DsAt W v (ds.map norm)->Calls Tryz.prog 94 #[.agg #[v0,v1,.int .i64 (notRel rel),.int .i64 (notC rel c)],v] W (RetF (onceL (notRel rel) (notC rel c) (ds.map norm) ((notCoef rel coef).zip vars)) W)):=fun W v v0 v1 i0 i1 hv=>by
  obtain ⟨q1,q2,q3,q4,q5⟩:=hfn.lin (.inr rfl)
  exact refOnce_c _ _ _ _ _ _ vars (ds.map norm) W i0 i1 hv (good_not q1 rel) (not_rel q2) (by dsimp only at q3;unfold notC;split <;> omega) (not_nz q4) (by simpa using hdl) q5
 have CNT:Hid (∀ W,Below w.heap.size w W->Calls Tryz.prog 95 #[.agg #[.slice a0 coef.length c0,.slice a1 vars.length c1,.int .i64 rel,.int .i64 c]] W fun e w'=>∃ v0 v1,e=.returned (.agg #[v0,v1,.int .i64 (notRel rel),.int .i64 (notC rel c)])/\IsAt w' v0 (notCoef rel coef)/\IsAt w' v1 vars/\Below W.heap.size W w'/\(∀ b,v1.ownBlock=some b->W.heap.size<=b)/\∀ b,v0.ownBlock=some b->W.heap.size<=b):=fun W h=>by
  obtain ⟨q1,q2,q3,_,_⟩:=hfn.lin (.inr rfl)
  exact refNot_c _ _ rel c coef vars W (h0.below h) (h1.below h) q1.le16 q1.len q2 (by dsimp only at q3;omega) q1.coefs
 clear h0 h1 h2 hd hf hdm hfn hlx
 generalize refOnceP (PL.mk 4 rel c nx y z coef vars vs) ds=RES at *
 obtain ⟨GO,hGO⟩:∃ GO:Nat->Ds->Option Ds,GO=fun i out=>seqGo ((cutsTo (PL.mk 4 rel c nx y z coef vars vs) (ds.map norm) ((PL.mk 4 rel c nx y z coef vars vs).says (ds.map norm)) (PL.mk 4 rel c nx y z coef vars vs).all.length).drop i) out:=⟨_,rfl⟩
 obtain ⟨CUT,hCUT⟩:∃ CUT:Nat->List Rg->List Rg,CUT=fun i D=>cutL (PL.mk 4 rel c nx y z coef vars vs) (ds.map norm) ((PL.mk 4 rel c nx y z coef vars vs).says (ds.map norm)) i D:=⟨_,rfl⟩
 have eGO:∀ i out,seqGo ((cutsTo (PL.mk 4 rel c nx y z coef vars vs) (ds.map norm) ((PL.mk 4 rel c nx y z coef vars vs).says (ds.map norm)) (PL.mk 4 rel c nx y z coef vars vs).all.length).drop i) out=GO i out:=fun i out=>by rw [hGO]
 have eCUT:∀ i D,cutL (PL.mk 4 rel c nx y z coef vars vs) (ds.map norm) ((PL.mk 4 rel c nx y z coef vars vs).says (ds.map norm)) i D=CUT i D:=fun i D=>by rw [hCUT]
 simp only [eGO,eCUT] at HGS HGE HCN CCUT0 HRO HRB HRC
 clear hGO hCUT eGO eCUT
 generalize (PL.mk 4 rel c nx y z coef vars vs).one (ds.map norm)=b1 at *
 generalize (PL.mk 4 rel c nx y z coef vars vs).nought (ds.map norm)=b0 at *
 generalize (PL.mk 4 rel c nx y z coef vars vs).all=L at *
 generalize notRel rel=nr at *
 generalize notC rel c=nC at *
 generalize notCoef rel coef=ncoef at *
 obtain ⟨ad,cd,rfl,_⟩:=HD.out.shape
 have hZ:Hid (Below w.heap.size w (w.alloc (.cells #[.int .i64 4,.slice a0 coef.length c0,.slice a1 vars.length c1,.int .i64 rel,.int .i64 c,.int .i64 nx,.int .i64 y,.int .i64 z,.slice a2 vs.length c2] 67))):=bA _
 have hB0:Hid (BoxL (w.alloc (.cells #[.int .i64 4,.slice a0 coef.length c0,.slice a1 vars.length c1,.int .i64 rel,.int .i64 c,.int .i64 nx,.int .i64 y,.int .i64 z,.slice a2 vs.length c2] 67)) w.heap.size #[.int .i64 4,.slice a0 coef.length c0,.slice a1 vars.length c1,.int .i64 rel,.int .i64 c,.int .i64 nx,.int .i64 y,.int .i64 z,.slice a2 vs.length c2].toList):=BoxL.mk' _ #[.int .i64 4,.slice a0 coef.length c0,.slice a1 vars.length c1,.int .i64 rel,.int .i64 c,.int .i64 nx,.int .i64 y,.int .i64 z,.slice a2 vs.length c2] _
 have HLL2:=HLL.out
 unfold propV
 go_enter Tryz.func74,Tryz.ntmps74
 go_wp2
 go_loopw [6,7] (fun o s wr=>∃ k:Nat,∃ us:List Value,k<=ds.length/\s=.int .i64 k/\Hid (DsAppF wr (w.heap.size+1) o ((ds.take k).map norm) us)/\Hid (Below w.heap.size w wr)/\Hid (BoxL wr w.heap.size #[.int .i64 4,.slice a0 coef.length c0,.slice a1 vars.length c1,.int .i64 rel,.int .i64 c,.int .i64 nx,.int .i64 y,.int .i64 z,.slice a2 vs.length c2].toList)/\w.heap.size+1<=wr.heap.size) (fun _ s _=>ds.length - (intOf s).toNat)
 case atStart =>
  refine ⟨0,[],by omega,rfl,?_,?_,?_,by simp⟩
  ·refine hD (DsAppF.nil ?_)
   have h:=World.ownsRow_made (w.alloc (.cells #[.int .i64 4,.slice a0 coef.length c0,.slice a1 vars.length c1,.int .i64 rel,.int .i64 c,.int .i64 nx,.int .i64 y,.int .i64 z,.slice a2 vs.length c2] 67)) #[] 0 (base:=(w.alloc (.cells #[.int .i64 4,.slice a0 coef.length c0,.slice a1 vars.length c1,.int .i64 rel,.int .i64 c,.int .i64 nx,.int .i64 y,.int .i64 z,.slice a2 vs.length c2] 67)).heap.size) (e:=61) (size:=1) (rN _) (by decide) rfl
   rw [show (w.alloc (.cells #[.int .i64 4,.slice a0 coef.length c0,.slice a1 vars.length c1,.int .i64 rel,.int .i64 c,.int .i64 nx,.int .i64 y,.int .i64 z,.slice a2 vs.length c2] 67)).heap.size=w.heap.size+1 by simp] at h
   exact h
  ·refine hD ?_
   exact hZ.out.alloc (by simp) _
  ·refine hD ?_
   exact hB0.out.below ((Below.refl (w.heap.size+1) _).alloc (by simp) _) (Nat.lt_succ_self _)
 case round =>
  obtain ⟨k,us,hk,rfl,HO,HB,HL,hsz⟩:=hrel
  clear hZ hB0
  by_cases hlt:k<ds.length
  ·obtain ⟨b,off,ao,cap,rfl,q1,q2,_,hc,hrg⟩:=(HD.out).get k hlt
   have j1:(k:Int)<ds.length:=by omega
   rw [<- HB.out.cell (p:=⟨b,off+k,none⟩) q2] at hc
   have CN:=hD (refNorm_n _ ds[k] wr (hrg.below HB.out) (HDL.out _ (List.getElem_mem hlt)))
   have HST:Hid ((ds.take (k+1)).map norm=(ds.take k).map norm++[norm ds[k]]):=by
    show _=_
    rw [List.take_succ_eq_append_getElem hlt,List.map_append];rfl
   have hOl:((ds.take k).map norm).length<=4096:=by rw [List.length_map,List.length_take];omega
   have hle:=HB.out.size
   clear hrg HONE CHX
   generalize (ds.take k).map norm=O at *
   generalize ds[k]=d at *
   obtain ⟨oa,oc,rfl,_⟩:=(SlAt.of_own HO.out.row).shape
   go_wp2_with (first
    | (go_at_call 47;(with_reducible refine CN.out.mono ?_);rintro e W3 ⟨a3,c3,rfl,r3,b3,n3⟩;have HO3:=hD (HO.out.below b3);have HAP:=hD (apart_made HO.out.row n3);have N3:=hD (fun b h=>Nat.le_trans hsz (n3 b h));have R3:=hD r3;have B3:=hD (HB.out.trans (b3.mono hle));have L3:=hD (HL.out.below b3 (by omega));have hle3:=b3.size;clear b3 r3 n3)
    | (at_builtin;refine wpList_append1L rfl (.tmp 26) (.tmp 32) 22 rfl (w.heap.size+1) 61 i0 (.slice none 0 0) 24 Tryz.underlying22 hi0 hz0 hz1 hz2 rfl _ _ _ rfl HO3.out.row _ rfl rfl (by omega) (by omega) ?_;intro g1 cap1 w1 o1 bw kw gw))
   refine ⟨⟨k+1,us++[.slice a3 (norm d).length c3],by omega,by go_num,?_,?_,?_,?_⟩,by simp [intOf];omega⟩
   ·rw [HST.out];exact hD (HO3.out.push R3.out (fun _=>HAP.out) N3.out o1 kw gw)
   ·exact hD (B3.out.trans (bw.mono (by omega)))
   ·exact hD (L3.out.below bw (by omega))
   ·have:=bw.size;omega
  ·obtain rfl:k=ds.length:=by omega
   rw [List.take_length] at HO
   have HWA0:=hD ((HO.out.own.from (rN _)).mono (Nat.le_succ _))
   clear HO hlt hk HDL HD
   obtain ⟨aw,cw,rfl,_⟩:=HWA0.out.shape
   rw [HWL.out] at HWA0 |-
   obtain ⟨was,hwas⟩:∃ was,was=ds.map norm:=⟨_,rfl⟩
   rw [<- hwas] at HWN HWL HRN HWA0 HRO CCUT0 HGS HRB HRC HOS CLO CLN
   have HWX:Hid ((hx:nx<was.length)->was[nx]=norm ds[nx]):=fun hx=>by subst hwas;simp
   clear hwas
   have HY0:Hid (∀ W',Below wr.heap.size wr W'->W'.cell? ⟨w.heap.size,0,none⟩=some (.int .i64 4)/\W'.cell? ⟨w.heap.size,1,none⟩=some (.slice a0 coef.length c0)/\W'.cell? ⟨w.heap.size,2,none⟩=some (.slice a1 vars.length c1)/\W'.cell? ⟨w.heap.size,3,none⟩=some (.int .i64 rel)/\W'.cell? ⟨w.heap.size,4,none⟩=some (.int .i64 c)/\W'.cell? ⟨w.heap.size,5,none⟩=some (.int .i64 nx)/\W'.cell? ⟨w.heap.size,6,none⟩=some (.int .i64 y)/\W'.cell? ⟨w.heap.size,7,none⟩=some (.int .i64 z)/\W'.cell? ⟨w.heap.size,8,none⟩=some (.slice a2 vs.length c2)):=fun W' h=>by
    have hh:=HL.out.below h (by omega)
    exact ⟨(hh.get 0 rfl).1,(hh.get 1 rfl).1,(hh.get 2 rfl).1,(hh.get 3 rfl).1,(hh.get 4 rfl).1,(hh.get 5 rfl).1,(hh.get 6 rfl).1,(hh.get 7 rfl).1,(hh.get 8 rfl).1⟩
   obtain ⟨l0,l1,l2,l3,l4,l5,l6,l7,l8⟩:=HY0.out wr (Below.refl _ _)
   have hszw:=HB.out.size
   go_wp2_with (go_at_call 59;(with_reducible refine (CA.out _ HB.out).mono ?_);rintro e W1 ⟨al,cl,rfl,i1,b1⟩;have B1:=hD b1;have HLI:=hD i1;clear b1 i1)
   have HW1:=hD (HB.out.trans (B1.out.mono hszw))
   have HWA:=hD (HWA0.out.below B1.out)
   have HY:Hid (∀ W',Below W1.heap.size W1 W'->W'.cell? ⟨w.heap.size,0,none⟩=some (.int .i64 4)/\W'.cell? ⟨w.heap.size,1,none⟩=some (.slice a0 coef.length c0)/\W'.cell? ⟨w.heap.size,2,none⟩=some (.slice a1 vars.length c1)/\W'.cell? ⟨w.heap.size,3,none⟩=some (.int .i64 rel)/\W'.cell? ⟨w.heap.size,4,none⟩=some (.int .i64 c)/\W'.cell? ⟨w.heap.size,5,none⟩=some (.int .i64 nx)/\W'.cell? ⟨w.heap.size,6,none⟩=some (.int .i64 y)/\W'.cell? ⟨w.heap.size,7,none⟩=some (.int .i64 z)/\W'.cell? ⟨w.heap.size,8,none⟩=some (.slice a2 vs.length c2)):=fun W' h=>HY0.out W' (bT B1.out h)
   clear l0 l1 l2 l3 l4 l5 l6 l7 l8 HL HB HWA0 HY0
   go_loop [9] (fun s=>∃ i:Nat,i<=L.length/\s=.int .i64 i/\Hid (∀ j,(hj:j<L.length)->j<i->domOf was L[j]≠[])) (fun s=>L.length - (intOf s).toNat)
   case atStart=>exact ⟨0,by omega,rfl,fun j _ h=>by omega⟩
   case round =>
    obtain ⟨i,hil,rfl,HNE⟩:=hrel
    by_cases hlt:i<L.length
    ·obtain ⟨b1,o1,rfl,q1,q2,x1⟩:=HLI.out.getR i hlt
     have hvi:=HLV.out L[i] (List.getElem_mem hlt)
     obtain ⟨n,hn⟩:=Int.eq_ofNat_of_zero_le hvi.1
     have hnl:n<ds.length:=by have:=hvi.2;omega
     have hnw:n<was.length:=by have:=HWL.out;omega
     obtain ⟨b2,o2,aw',cw',rfl,w1,w2,hq2,x2,hr2⟩:=HWA.out.get n hnw
     clear hq2 hr2
     have e2:domOf was L[i]=was[n]:=by rw [hn];exact domOf_nat hnw
     have HNN:Hid (domOf was L[i]=[]->RES=none):=fun h=>HRN.out (anyNil_at i hlt h)
     have HNS:Hid (domOf was L[i]≠[]->∀ j,(hj:j<L.length)->j<i+1->domOf was L[j]≠[]):=fun h j hj hji=>by
      rcases (show j<i\/j=i by omega) with h1 | rfl
      ·exact HNE.out j hj h1
      ·exact h
     rw [e2] at HNN HNS
     rw [hn] at x1
     have j1:(i:Int)<L.length:=by omega
     have j2:(n:Int)<ds.length:=by omega
     have j3:(i:Int)<=4096:=by omega
     by_cases hnil:was[n]=[]
     ·have hln:was[n].length=0:=by rw [hnil];rfl
      have HR:=hD (HNN.out hnil)
      rw [hln] at x2
      clear HNN HNS HNE hnil hln e2 hvi hn
      go_wp2
      go_ret2
      exact ⟨HW1.out,.inr ⟨HR.out,rfl⟩⟩
     ·have hcp:((was[n].length:Int)==0)=false:=by have:=List.length_pos_iff.2 hnil;simp;omega
      have HNE2:=hD (HNS.out hnil)
      clear HNN HNS HNE hnil e2 hvi hn
      generalize was[n].length=ln at *
      go_wp2
      go_round
      case rel=>exact ⟨i+1,by omega,by go_num,HNE2⟩
      case measure=>simp [intOf];omega
    ·obtain rfl:i=L.length:=by omega
     have hany:anyNil L was=false:=anyNil_none (fun j hj=>HNE.out j hj hj)
     have CCUT:=hD (CCUT0.out hany)
     have HRO2:=hD (HRO.out hany)
     have HRB2:=hD (HRB.out hany)
     have HRC2:=hD (HRC.out hany)
     clear HRO HRB HRC HRN hany HNE CCUT0
     obtain ⟨s0,s1,s2,s3,s4,s5,s6,s7,s8⟩:=HY.out W1 (Below.refl _ _)
     have hnxw:nx<was.length:=by have:=HWL.out;omega
     have hjx:(nx:Int)<ds.length:=by omega
     obtain ⟨bx,ox,ax,cx,rfl,hx1,hx2,hqx,xx,rx⟩:=HWA.out.get nx hnxw
     clear hqx
     have HXX:Hid (∀ W',Below W1.heap.size W1 W'->(W'.cell? ⟨w.heap.size,0,none⟩=some (.int .i64 4)/\W'.cell? ⟨w.heap.size,1,none⟩=some (.slice a0 coef.length c0)/\W'.cell? ⟨w.heap.size,2,none⟩=some (.slice a1 vars.length c1)/\W'.cell? ⟨w.heap.size,3,none⟩=some (.int .i64 rel)/\W'.cell? ⟨w.heap.size,4,none⟩=some (.int .i64 c)/\W'.cell? ⟨w.heap.size,5,none⟩=some (.int .i64 nx)/\W'.cell? ⟨w.heap.size,6,none⟩=some (.int .i64 y)/\W'.cell? ⟨w.heap.size,7,none⟩=some (.int .i64 z)/\W'.cell? ⟨w.heap.size,8,none⟩=some (.slice a2 vs.length c2))/\W'.cell? ⟨bx,ox+nx,none⟩=some (.slice ax was[nx].length cx)):=fun W' h=>⟨HY.out W' h,(h.cell (p:=⟨bx,ox+nx,none⟩) hx2).trans xx⟩
     rw [HWX.out hnxw] at rx HXX xx
     have CH1:Hid (∀ W',Below W1.heap.size W1 W'->Calls Tryz.prog 48 #[.slice ax (norm ds[nx]).length cx,.int .i64 1] W' fun e w'=>e=.returned (.bool b1)/\W'=w'):=fun W' h=>by rw [HONE.out.1];exact CHX.out W' _ 1 (rx.below h)
     have CH0:Hid (∀ W',Below W1.heap.size W1 W'->Calls Tryz.prog 48 #[.slice ax (norm ds[nx]).length cx,.int .i64 0] W' fun e w'=>e=.returned (.bool b0)/\W'=w'):=fun W' h=>by rw [HONE.out.2];exact CHX.out W' _ 0 (rx.below h)
     clear rx HONE CHX HWX
     generalize (norm ds[nx]).length=lx at *
     clear hnx
     go_upto_if 66 with (at_builtin;obtain ⟨us,ul,usl,_,usr⟩:=HWA.out;refine wpList_append_sl rfl (.tmp 61) (.tmp 62) 22 rfl W1.heap.size 61 i0 (.slice none 0 0) 1 24 Tryz.underlying22 hi0 hz0 hz1 hz2 rfl (by decide) _ 0 [] rfl (World.ownsRow_made W1 #[] 0 (rN _) (by decide) rfl) _ _ us rfl (usl.alloc _) (ds_one ul usr) (by have:=HWL.out;omega) (by simp) ?_;intro o0 Wm ow9 bw9 _;have HM9:=hD (m_own ul usr ow9 bw9);have B9:=hD HM9.out.2;have HO9:=hD (HM9.out.1.from HW1.out.size);obtain ⟨⟨z0,z1,z2,z3,z4,z5,z6,z7,z8⟩,zx⟩:=HXX.out Wm B9.out;have q1:=cell_al z1;have q2:=cell_al z2;have q3:=cell_al z3;have q4:=cell_al z4;have HWA9:Hid (∀ o,Below w.heap.size w (Wm.alloc o)):=(fun o=>(bT HW1.out B9.out).alloc (Nat.le_trans HW1.out.size B9.out.size) o);have CLO9:Hid (∀ o,Calls Tryz.prog 94 #[.agg #[.slice a0 coef.length c0,.slice a1 vars.length c1,.int .i64 rel,.int .i64 c],.slice (some ⟨bx,ox,none⟩) ds.length cw] (Wm.alloc o) (RetF (onceL rel c was (coef.zip vars)) (Wm.alloc o))):=(fun o=>CLO.out _ _ (HWA9.out o) (HWA.out.here.below (B9.out.alloc B9.out.size o)));clear ow9 bw9 us ul usl usr HM9)
     go_cut [10] (fun o wx=>∃ out0,Hid (RES=GO 0 out0)/\Hid (DsFrom w.heap.size wx o out0)/\Hid (out0.length=ds.length)/\Hid (AllN out0)/\Hid (Below W1.heap.size W1 wx))
     case first =>
      cases b0 with
      | false =>
       cases b1 with
       | false =>
        go_wp2_with (first
         | (go_at_call 48;(with_reducible refine (CH1.out _ B9.out).mono ?_);rintro e w' ⟨rfl,rfl⟩)
         | (go_at_call 48;(with_reducible refine (CH0.out _ B9.out).mono ?_);rintro e w' ⟨rfl,rfl⟩))
        go_meet
        exact ⟨was,hD (HRO2.out (by first | trivial | rfl)),hD (HO9.out.alloc _),HWL,HWN,hD (bL B9.out _)⟩
       | true =>
        cases hO:onceL rel c was (coef.zip vars) with
        | none =>
         have HR:=hD ((HRB2.out rfl rfl).1 hO)
         rw [hO] at CLO9
         clear hO
         go_wp2_with (first
          | (go_at_call 48;(with_reducible refine (CH1.out _ B9.out).mono ?_);rintro e w' ⟨rfl,rfl⟩)
          | (go_at_call 48;(with_reducible refine (CH0.out _ B9.out).mono ?_);rintro e w' ⟨rfl,rfl⟩)
          | (go_at_call 94;(with_reducible refine (CLO9.out _).mono ?_);rintro e W11 ⟨bb,hh⟩;obtain ⟨_,_,_,h0,_⟩ | ⟨_,rfl⟩:=hh;(cases h0);have B11:=hD ((bL B9.out _).trans (bb.mono ((bL B9.out _)).size));clear bb))
         go_ret2
         exact ⟨bT HW1.out B11.out,.inr ⟨HR.out,rfl⟩⟩
        | some r =>
         have HR:=hD ((HRB2.out rfl rfl).2 r hO)
         have HRL:=hD (HOS.out _ _ _ _ hO (fun p hp=>zip_vars p hp))
         rw [hO] at CLO9
         clear hO
         go_wp2_with (first
          | (go_at_call 48;(with_reducible refine (CH1.out _ B9.out).mono ?_);rintro e w' ⟨rfl,rfl⟩)
          | (go_at_call 48;(with_reducible refine (CH0.out _ B9.out).mono ?_);rintro e w' ⟨rfl,rfl⟩)
          | (go_at_call 94;(with_reducible refine (CLO9.out _).mono ?_);rintro e W11 hh;obtain ⟨a9,c9,rfl,d9,bb⟩:=hh.is;have D9:=hD (d9.mono (HWA9.out _).size);have B11:=hD ((bL B9.out _).trans (bb.mono ((bL B9.out _)).size));clear bb d9 hh))
         go_meet
         exact ⟨r,HR,D9,hD HRL.out.1,hD HRL.out.2,B11⟩
      | true =>
       cases b1 with
       | true =>
        go_wp2_with (first
         | (go_at_call 48;(with_reducible refine (CH1.out _ B9.out).mono ?_);rintro e w' ⟨rfl,rfl⟩)
         | (go_at_call 48;(with_reducible refine (CH0.out _ B9.out).mono ?_);rintro e w' ⟨rfl,rfl⟩)
         | (go_at_call 95;(with_reducible refine (CNT.out _ (HWA9.out _)).mono ?_);rintro e W10 ⟨v0,v1,rfl,i0',i1',bb,nv1,nv0⟩;obtain ⟨a4,c4,rfl,_⟩:=IsAt.shape i0';obtain ⟨a5,c5,rfl,_⟩:=IsAt.shape i1';have QB:=hD (BoxL.later (by simp) bb);obtain ⟨qc0,qf0⟩:=QB.out.get 0 rfl;obtain ⟨qc1,qf1⟩:=QB.out.get 1 rfl;obtain ⟨qc2,qf2⟩:=QB.out.get 2 rfl;obtain ⟨qc3,qf3⟩:=QB.out.get 3 rfl;have Q4:=hD ((((QB.out.set 0 (by simp) (.slice a4 ncoef.length c4)).set 1 (by simp) (.slice a5 vars.length c5)).set 2 (by simp) (.int .i64 nr)).set 3 (by simp) (.int .i64 nC));obtain ⟨t0,_⟩:=Q4.out.get 0 rfl;obtain ⟨t1,_⟩:=Q4.out.get 1 rfl;obtain ⟨t2,_⟩:=Q4.out.get 2 rfl;obtain ⟨t3,_⟩:=Q4.out.get 3 rfl;have BC:=hD (chain4 (b:=Wm.heap.size) (rN _) (((Below.refl Wm.heap.size Wm).alloc (rN _) (.cells #[.slice a0 coef.length c0,.slice a1 vars.length c1,.int .i64 rel,.int .i64 c] 65)).trans (bb.mono (by simp))) (.slice a4 ncoef.length c4) (.slice a5 vars.length c5) (.int .i64 nr) (.int .i64 nC));have CLN2:=hD (CLN.out _ _ _ _ (far4 i0' (b:=Wm.heap.size) (fun he=>by have h9:=nv0 _ he;rw [World.heap_size_alloc'] at h9;omega) _ _ _ _) (far4 i1' (b:=Wm.heap.size) (fun he=>by have h9:=nv1 _ he;rw [World.heap_size_alloc'] at h9;omega) _ _ _ _) (HWA.out.here.below (bT B9.out BC.out)));clear bb i0' i1' nv0 nv1))
        go_meet
        exact ⟨was,hD (HRO2.out (by first | trivial | rfl)),hD (HO9.out.below BC.out),HWL,HWN,hD (bT B9.out BC.out)⟩
       | false =>
        cases hO:onceL nr nC was (ncoef.zip vars) with
        | none =>
         have HR:=hD ((HRC2.out rfl rfl).1 hO)
         rw [hO] at CLN
         clear hO
         go_wp2_with (first
          | (go_at_call 48;(with_reducible refine (CH1.out _ B9.out).mono ?_);rintro e w' ⟨rfl,rfl⟩)
          | (go_at_call 48;(with_reducible refine (CH0.out _ B9.out).mono ?_);rintro e w' ⟨rfl,rfl⟩)
          | (go_at_call 95;(with_reducible refine (CNT.out _ (HWA9.out _)).mono ?_);rintro e W10 ⟨v0,v1,rfl,i0',i1',bb,nv1,nv0⟩;obtain ⟨a4,c4,rfl,_⟩:=IsAt.shape i0';obtain ⟨a5,c5,rfl,_⟩:=IsAt.shape i1';have QB:=hD (BoxL.later (by simp) bb);obtain ⟨qc0,qf0⟩:=QB.out.get 0 rfl;obtain ⟨qc1,qf1⟩:=QB.out.get 1 rfl;obtain ⟨qc2,qf2⟩:=QB.out.get 2 rfl;obtain ⟨qc3,qf3⟩:=QB.out.get 3 rfl;have Q4:=hD ((((QB.out.set 0 (by simp) (.slice a4 ncoef.length c4)).set 1 (by simp) (.slice a5 vars.length c5)).set 2 (by simp) (.int .i64 nr)).set 3 (by simp) (.int .i64 nC));obtain ⟨t0,_⟩:=Q4.out.get 0 rfl;obtain ⟨t1,_⟩:=Q4.out.get 1 rfl;obtain ⟨t2,_⟩:=Q4.out.get 2 rfl;obtain ⟨t3,_⟩:=Q4.out.get 3 rfl;have BC:=hD (chain4 (b:=Wm.heap.size) (rN _) (((Below.refl Wm.heap.size Wm).alloc (rN _) (.cells #[.slice a0 coef.length c0,.slice a1 vars.length c1,.int .i64 rel,.int .i64 c] 65)).trans (bb.mono (by simp))) (.slice a4 ncoef.length c4) (.slice a5 vars.length c5) (.int .i64 nr) (.int .i64 nC));have CLN2:=hD (CLN.out _ _ _ _ (far4 i0' (b:=Wm.heap.size) (fun he=>by have h9:=nv0 _ he;rw [World.heap_size_alloc'] at h9;omega) _ _ _ _) (far4 i1' (b:=Wm.heap.size) (fun he=>by have h9:=nv1 _ he;rw [World.heap_size_alloc'] at h9;omega) _ _ _ _) (HWA.out.here.below (bT B9.out BC.out)));clear bb i0' i1' nv0 nv1)
          | (go_at_call 94;(with_reducible refine CLN2.out.mono ?_);rintro e W11 ⟨bb,hh⟩;obtain ⟨_,_,_,h0,_⟩ | ⟨_,rfl⟩:=hh;(cases h0);have B11:=hD ((bT B9.out BC.out).trans (bb.mono ((bT B9.out BC.out)).size));clear bb))
         go_ret2
         exact ⟨bT HW1.out B11.out,.inr ⟨HR.out,rfl⟩⟩
        | some r =>
         have HR:=hD ((HRC2.out rfl rfl).2 r hO)
         have HRL:=hD (HOS.out _ _ _ _ hO (fun p hp=>zip_vars p hp))
         rw [hO] at CLN
         clear hO
         go_wp2_with (first
          | (go_at_call 48;(with_reducible refine (CH1.out _ B9.out).mono ?_);rintro e w' ⟨rfl,rfl⟩)
          | (go_at_call 48;(with_reducible refine (CH0.out _ B9.out).mono ?_);rintro e w' ⟨rfl,rfl⟩)
          | (go_at_call 95;(with_reducible refine (CNT.out _ (HWA9.out _)).mono ?_);rintro e W10 ⟨v0,v1,rfl,i0',i1',bb,nv1,nv0⟩;obtain ⟨a4,c4,rfl,_⟩:=IsAt.shape i0';obtain ⟨a5,c5,rfl,_⟩:=IsAt.shape i1';have QB:=hD (BoxL.later (by simp) bb);obtain ⟨qc0,qf0⟩:=QB.out.get 0 rfl;obtain ⟨qc1,qf1⟩:=QB.out.get 1 rfl;obtain ⟨qc2,qf2⟩:=QB.out.get 2 rfl;obtain ⟨qc3,qf3⟩:=QB.out.get 3 rfl;have Q4:=hD ((((QB.out.set 0 (by simp) (.slice a4 ncoef.length c4)).set 1 (by simp) (.slice a5 vars.length c5)).set 2 (by simp) (.int .i64 nr)).set 3 (by simp) (.int .i64 nC));obtain ⟨t0,_⟩:=Q4.out.get 0 rfl;obtain ⟨t1,_⟩:=Q4.out.get 1 rfl;obtain ⟨t2,_⟩:=Q4.out.get 2 rfl;obtain ⟨t3,_⟩:=Q4.out.get 3 rfl;have BC:=hD (chain4 (b:=Wm.heap.size) (rN _) (((Below.refl Wm.heap.size Wm).alloc (rN _) (.cells #[.slice a0 coef.length c0,.slice a1 vars.length c1,.int .i64 rel,.int .i64 c] 65)).trans (bb.mono (by simp))) (.slice a4 ncoef.length c4) (.slice a5 vars.length c5) (.int .i64 nr) (.int .i64 nC));have CLN2:=hD (CLN.out _ _ _ _ (far4 i0' (b:=Wm.heap.size) (fun he=>by have h9:=nv0 _ he;rw [World.heap_size_alloc'] at h9;omega) _ _ _ _) (far4 i1' (b:=Wm.heap.size) (fun he=>by have h9:=nv1 _ he;rw [World.heap_size_alloc'] at h9;omega) _ _ _ _) (HWA.out.here.below (bT B9.out BC.out)));clear bb i0' i1' nv0 nv1)
          | (go_at_call 94;(with_reducible refine CLN2.out.mono ?_);rintro e W11 hh;obtain ⟨a9,c9,rfl,d9,bb⟩:=hh.is;have D9:=hD (d9.mono (HW1.out.trans ((bT B9.out BC.out).mono HW1.out.size)).size);have B11:=hD ((bT B9.out BC.out).trans (bb.mono ((bT B9.out BC.out)).size));clear bb d9 hh))
         go_meet
         exact ⟨r,HR,D9,hD HRL.out.1,hD HRL.out.2,B11⟩
     case rest =>
      obtain ⟨out0,HRES,HO0,HOL0,HON0,HBW⟩:=hcut
      obtain ⟨W,hW⟩:∃ W,W=wc:=⟨_,rfl⟩
      subst hW
      have HW:=hD (bT HW1.out HBW.out)
      have HYW:Hid (∀ W',Below W.heap.size W W'->W'.cell? ⟨w.heap.size,0,none⟩=some (.int .i64 4)/\W'.cell? ⟨w.heap.size,1,none⟩=some (.slice a0 coef.length c0)/\W'.cell? ⟨w.heap.size,2,none⟩=some (.slice a1 vars.length c1)/\W'.cell? ⟨w.heap.size,3,none⟩=some (.int .i64 rel)/\W'.cell? ⟨w.heap.size,4,none⟩=some (.int .i64 c)/\W'.cell? ⟨w.heap.size,5,none⟩=some (.int .i64 nx)/\W'.cell? ⟨w.heap.size,6,none⟩=some (.int .i64 y)/\W'.cell? ⟨w.heap.size,7,none⟩=some (.int .i64 z)/\W'.cell? ⟨w.heap.size,8,none⟩=some (.slice a2 vs.length c2)):=fun W' h=>HY.out W' (bT HBW.out h)
      have HLIW:=hD (IsAt.below HLI.out HBW.out)
      have HWAW:=hD (HWA.out.below HBW.out)
      clear HY HLI HWA HW1 HBW B9 s0 s1 s2 s3 s4 s5 s6 s7 s8 z0 z1 z2 z3 z4 z5 z6 z7 z8 zx q1 q2 q3 q4 B1 CA HWA9 CLO9 HRO2 HRB2 HRC2 CLO CLN CNT CH1 CH0 HXX xx HOS HO9
      have HY:=HYW
      have HLI:=HLIW
      have HWA:=HWAW
      clear HYW HLIW HWAW
      go_wp2
      go_loopw [10,16,17,18] (fun o q _ _ wr=>∃ (i:Nat) (out:Ds),i<=L.length/\q=.int .i64 i/\Hid (DsFrom w.heap.size wr o out)/\Hid (out.length=ds.length)/\Hid (AllN out)/\Hid (RES=GO i out)/\Hid (Below W.heap.size W wr)) (fun _ q _ _ _=>L.length - (intOf q).toNat)
      case atStart=>exact ⟨0,out0,by omega,rfl,HO0,HOL0,HON0,HRES,Below.refl _ _⟩
      case round =>
       clear HO0 HOL0 HON0 HRES
       obtain ⟨i,out,hi,rfl,HO,HOL,HON,HRES,HB⟩:=hrel
       have hsz:=HB.out.size
       have HWS:Hid (w.heap.size<=wr.heap.size):=Nat.le_trans HW.out.size HB.out.size
       by_cases hlt:i<L.length
       ·obtain ⟨b1,o1,rfl,q1,q2,x1⟩:=HLI.out.getR i hlt
        have hvi:=HLV.out L[i] (List.getElem_mem hlt)
        obtain ⟨n,hn⟩:=Int.eq_ofNat_of_zero_le hvi.1
        have hnl:n<ds.length:=by have:=hvi.2;omega
        have hnw:n<was.length:=by have:=HWL.out;omega
        have hno:n<out.length:=by have:=HOL.out;omega
        rw [hn] at x1
        obtain ⟨b2,o2,aw',cw',he2,w1,w2,hq2,x2,r2⟩:=HWA.out.get n hnw
        simp only [Option.some.injEq,Addr.mk.injEq,and_true] at he2
        obtain ⟨rfl,rfl⟩:=he2
        obtain ⟨oa,ocap,rfl,_⟩:=HO.out.shape
        obtain ⟨b3,o3,ao',co',rfl,u1,u2,hq3,x3,r3⟩:=HO.out.get n hno
        clear hq2 hq3
        have HST:Hid (GO i out=if meetL out[n] (CUT i was[n])=[] then none else GO (i+1) (out.set n (meetL out[n] (CUT i was[n])))):=by
         have e1:domOf out L[i]=out[n]:=by rw [hn];exact domOf_nat hno
         have e2:domOf was L[i]=was[n]:=by rw [hn];exact domOf_nat hnw
         have e3:L[i].toNat=n:=by rw [hn];rfl
         have h:=HGS.out i hlt out (by rw [e3];exact hno)
         rw [e1,e2,e3] at h
         exact h
        have HWM:Hid (Normal was[n]):=allN_at HWN.out hnw
        have HOM:Hid (Normal out[n]):=allN_at HON.out hno
        have HCC:Hid (∀ W',Below wr.heap.size wr W'->Calls Tryz.prog 96 #[.agg #[.int .i64 4,.slice a0 coef.length c0,.slice a1 vars.length c1,.int .i64 rel,.int .i64 c,.int .i64 nx,.int .i64 y,.int .i64 z,.slice a2 vs.length c2],.slice (some ⟨bx,ox,none⟩) ds.length cw,.int .i64 i,.slice aw' was[n].length cw'] W' (RetN (CUT i was[n]) W')):=fun W' h =>
         CCUT.out W' (HW.out.trans ((HB.out.trans (h.mono hsz)).mono HW.out.size)) i was[n] _ _ (HWA.out.here.below (HB.out.trans (h.mono hsz))) (r2.below (HB.out.trans (h.mono hsz))) HWM.out
        have HSM:Hid (∀ W' v' D',Below wr.heap.size wr W'->RgAt W' v' D'->D'.length<=4096->Calls Tryz.prog 97 #[v',.slice ao' out[n].length co'] W' fun e w'=>e=.returned (.bool (decide (D'=out[n])))/\Below W'.heap.size W' w'):=fun W' v' D' h hr hl=>same16_c _ _ D' out[n] W' hr (r3.below h) hl
        have HMT:Hid (∀ W' v',Below wr.heap.size wr W'->RgAt W' v' (CUT i was[n])->Calls Tryz.prog 36 #[.slice ao' out[n].length co',v'] W' (RetN (meetL out[n] (CUT i was[n])) W')):=fun W' v' h hr=>refMeet_n _ _ out[n] (CUT i was[n]) W' (r3.below h) hr (by have:=normal_len HOM.out;omega) (by have:=HCN.out i was[n];omega)
        have HCL:Hid ((CUT i was[n]).length<=201/\(meetL out[n] (CUT i was[n])).length<=201):=⟨HCN.out i was[n],canon_len _⟩
        have HMS:Hid (CUT i was[n]=out[n]->meetL out[n] (CUT i was[n])=CUT i was[n]):=fun e=>by rw [e,meet_self HOM.out]
        have HMN:Hid (Normal (meetL out[n] (CUT i was[n]))):=canon_normal _
        have HX:Hid (∀ W',Below wr.heap.size wr W'->(W'.cell? ⟨w.heap.size,0,none⟩=some (.int .i64 4)/\W'.cell? ⟨w.heap.size,1,none⟩=some (.slice a0 coef.length c0)/\W'.cell? ⟨w.heap.size,2,none⟩=some (.slice a1 vars.length c1)/\W'.cell? ⟨w.heap.size,3,none⟩=some (.int .i64 rel)/\W'.cell? ⟨w.heap.size,4,none⟩=some (.int .i64 c)/\W'.cell? ⟨w.heap.size,5,none⟩=some (.int .i64 nx)/\W'.cell? ⟨w.heap.size,6,none⟩=some (.int .i64 y)/\W'.cell? ⟨w.heap.size,7,none⟩=some (.int .i64 z)/\W'.cell? ⟨w.heap.size,8,none⟩=some (.slice a2 vs.length c2))/\W'.cell? ⟨b1,o1+i,none⟩=some (.int .i64 n)/\W'.cell? ⟨bx,ox+n,none⟩=some (.slice aw' was[n].length cw')/\W'.cell? ⟨b3,o3+n,none⟩=some (.slice ao' out[n].length co')):=fun W' h=>by
         have hb:=HB.out.trans (h.mono hsz)
         exact ⟨HY.out W' hb,(hb.cell (p:=⟨b1,o1+i,none⟩) q2).trans x1,(hb.cell (p:=⟨bx,ox+n,none⟩) w2).trans x2,(h.cell (p:=⟨b3,o3+n,none⟩) u2).trans x3⟩
        have HOA:Hid (∀ W',Below wr.heap.size wr W'->DsFrom w.heap.size W' (.slice (some ⟨b3,o3,none⟩) out.length ocap) out):=fun W' h=>HO.out.below h
        have HOL2:=HOL.out
        have j1:(i:Int)<L.length:=by omega
        have j2:(n:Int)<ds.length:=by omega
        have j3:(i:Int)<=4096:=by omega
        have hset:Hid (∀ E,Normal E->AllN (out.set n E)):=fun E hE=>allN_set HON.out n hE
        rw [HOL2] at HOA |-
        clear hvi hn r2 r3 x1 x2 x3 HO
        generalize CUT i was[n]=C1 at *
        generalize meetL out[n] C1=E1 at *
        generalize was[n].length=wl at *
        obtain ⟨y0,y1,y2,y3,y4,y5,y6,y7,y8,⟨y9,y10,y11⟩⟩:_/\_/\_/\_/\_/\_/\_/\_/\_/\_:=by
         obtain ⟨⟨a,b,c,d,e,f,g,h,k⟩,l⟩:=HX.out wr (Below.refl _ _);exact ⟨a,b,c,d,e,f,g,h,k,l⟩
        by_cases hsame:C1=out[n]
        ·have HE:Hid (E1=C1):=HMS.out hsame
         have hdec:Hid (decide (C1=out[n])=true):=by show _=_;simp [hsame]
         by_cases hnil:C1=[]
         ·have HRN:Hid (RES=none):=by show _=_;rw [HRES.out,HST.out,HE.out,if_pos hnil]
          have hcl:C1.length=0:=by rw [hnil];rfl
          clear hnil hsame HST HMS
          go_wp2
          go_region_with ((go_at_call 96;(with_reducible refine (HCC.out _ ?_).mono ?_);(·exact (Below.refl _ wr).drew);rintro e W6 ⟨a6,c6,rfl,r6,b6,n6⟩;have N6:=hD (fun b h=>Nat.le_trans HWS.out (n6 b h));have bw6:Below wr.heap.size wr W6:=Below.trans ((Below.refl _ wr).drew) b6;have B6:=hD bw6;have R6:=hD r6;obtain ⟨⟨s0,s1,s2,s3,s4,s5,s6,s7,s8⟩,s9,s10,s11⟩:=HX.out W6 bw6;clear b6 r6 bw6))
          all_goals
           rw [hcl] at *
           go_wp2_with ((go_at_call 97;(with_reducible refine (HSM.out _ _ _ B6.out R6.out (by have:=HCL.out.1;omega)).mono ?_);rintro e W7 ⟨he,b7⟩;rw [hdec.out] at he;subst he;have B7:=hD (bT B6.out b7);have R7:=hD (R6.out.below b7);obtain ⟨⟨t0,t1,t2,t3,t4,t5,t6,t7,t8⟩,t9,t10,t11⟩:=HX.out W7 B7.out;clear b7))
           go_ret2
           exact ⟨HW.out.trans ((HB.out.trans (B7.out.mono hsz)).mono HW.out.size),.inr ⟨HRN.out,rfl⟩⟩
         ·have HRS:Hid (RES=GO (i+1) (out.set n C1)):=by show _=_;rw [HRES.out,HST.out,HE.out,if_neg hnil]
          have hcp:((C1.length:Int)==0)=false:=by have:=List.length_pos_iff.2 hnil;simp;omega
          have HEN:Hid (Normal C1):=by rw [<- HE.out];exact HMN.out
          clear hnil hsame HST HMS
          go_wp2
          go_region_with ((go_at_call 96;(with_reducible refine (HCC.out _ ?_).mono ?_);(·exact (Below.refl _ wr).drew);rintro e W6 ⟨a6,c6,rfl,r6,b6,n6⟩;have N6:=hD (fun b h=>Nat.le_trans HWS.out (n6 b h));have bw6:Below wr.heap.size wr W6:=Below.trans ((Below.refl _ wr).drew) b6;have B6:=hD bw6;have R6:=hD r6;obtain ⟨⟨s0,s1,s2,s3,s4,s5,s6,s7,s8⟩,s9,s10,s11⟩:=HX.out W6 bw6;clear b6 r6 bw6))
          all_goals
           go_wp2_with (first
            | (go_at_call 97;(with_reducible refine (HSM.out _ _ _ B6.out R6.out (by have:=HCL.out.1;omega)).mono ?_);rintro e W7 ⟨he,b7⟩;rw [hdec.out] at he;subst he;have B7:=hD (bT B6.out b7);have R7:=hD (R6.out.below b7);obtain ⟨⟨t0,t1,t2,t3,t4,t5,t6,t7,t8⟩,t9,t10,t11⟩:=HX.out W7 B7.out;clear b7)
            | (at_builtin;obtain ⟨us,ul,usl,_,usr⟩:=HOA.out _ B7.out;refine wpList_append_sl rfl (.tmp 137) (.tmp 138) 22 rfl (W7).heap.size 61 i0 (.slice none 0 0) 1 24 Tryz.underlying22 hi0 hz0 hz1 hz2 rfl (by decide) _ 0 [] rfl (World.ownsRow_made W7 #[] 0 (rN _) (by decide) rfl) _ _ us rfl (usl.alloc _) (ds_one ul usr) (by omega) (by simp) ?_;intro v9 W9 ow9 bw9 _;have HM9:=hD (m_facts ul usr HOL2 ow9 bw9 hno);obtain ⟨g9,cp9,rfl,hcp9,f9,u9,cell9⟩:=HM9.out.1;have B9:=hD (bT B7.out HM9.out.2.1);have R9:=hD (R7.out.below HM9.out.2.1);have GL9:=hD HM9.out.2.2;obtain ⟨⟨p0,p1,p2,p3,p4,p5,p6,p7,p8⟩,p9,p10,p11⟩:=HX.out W9 B9.out;clear ow9 bw9 us ul usl usr))
           exact ⟨⟨i+1,out.set n C1,by omega,by go_num,hD (m_set HOL2 GL9.out.1 hno R9.out N6.out (Nat.le_trans HWS.out B7.out.size)),by show _=_;rw [List.length_set];exact HOL2,hD (hset.out _ HEN.out),HRS,hD ((HB.out.trans (B9.out.mono hsz)).setCell (p:=⟨g9,n,none⟩) (Nat.le_trans hsz (Nat.le_trans B7.out.size (GL9.out.2 g9 rfl))) _)⟩,by simp [intOf];omega⟩
        ·have hdec:Hid (decide (C1=out[n])=false):=by show _=_;simp [hsame]
         by_cases hnil:E1=[]
         ·have HRN:Hid (RES=none):=by show _=_;rw [HRES.out,HST.out,if_pos hnil]
          have hcl:E1.length=0:=by rw [hnil];rfl
          clear hnil hsame HST HMS
          go_wp2
          go_region_with ((go_at_call 96;(with_reducible refine (HCC.out _ ?_).mono ?_);(·exact (Below.refl _ wr).drew);rintro e W6 ⟨a6,c6,rfl,r6,b6,n6⟩;have N6:=hD (fun b h=>Nat.le_trans HWS.out (n6 b h));have bw6:Below wr.heap.size wr W6:=Below.trans ((Below.refl _ wr).drew) b6;have B6:=hD bw6;have R6:=hD r6;obtain ⟨⟨s0,s1,s2,s3,s4,s5,s6,s7,s8⟩,s9,s10,s11⟩:=HX.out W6 bw6;clear b6 r6 bw6))
          all_goals
           go_wp2_with (first
            | (go_at_call 97;(with_reducible refine (HSM.out _ _ _ B6.out R6.out (by have:=HCL.out.1;omega)).mono ?_);rintro e W7 ⟨he,b7⟩;rw [hdec.out] at he;subst he;have B7:=hD (bT B6.out b7);have R7:=hD (R6.out.below b7);obtain ⟨⟨t0,t1,t2,t3,t4,t5,t6,t7,t8⟩,t9,t10,t11⟩:=HX.out W7 B7.out;clear b7)
            | (go_at_call 36;(with_reducible refine (HMT.out _ _ B7.out R7.out).mono ?_);rintro e W8 ⟨a8,c8,he8,r8,b8,_⟩;rw [hcl] at he8;subst he8;have B8:=hD (bT B7.out b8);have R8:=hD r8;obtain ⟨⟨v0,v1,v2,v3,v4,v5,v6,v7,v8⟩,v9,v10,v11⟩:=HX.out W8 B8.out;clear b8 r8))
           go_ret2
           exact ⟨HW.out.trans ((HB.out.trans (B8.out.mono hsz)).mono HW.out.size),.inr ⟨HRN.out,rfl⟩⟩
         ·have HRS:Hid (RES=GO (i+1) (out.set n E1)):=by show _=_;rw [HRES.out,HST.out,if_neg hnil]
          have hcp:((E1.length:Int)==0)=false:=by have:=List.length_pos_iff.2 hnil;simp;omega
          clear hnil hsame HST HMS
          go_wp2
          go_region_with ((go_at_call 96;(with_reducible refine (HCC.out _ ?_).mono ?_);(·exact (Below.refl _ wr).drew);rintro e W6 ⟨a6,c6,rfl,r6,b6,n6⟩;have N6:=hD (fun b h=>Nat.le_trans HWS.out (n6 b h));have bw6:Below wr.heap.size wr W6:=Below.trans ((Below.refl _ wr).drew) b6;have B6:=hD bw6;have R6:=hD r6;obtain ⟨⟨s0,s1,s2,s3,s4,s5,s6,s7,s8⟩,s9,s10,s11⟩:=HX.out W6 bw6;clear b6 r6 bw6))
          all_goals
           go_wp2_with (first
            | (go_at_call 97;(with_reducible refine (HSM.out _ _ _ B6.out R6.out (by have:=HCL.out.1;omega)).mono ?_);rintro e W7 ⟨he,b7⟩;rw [hdec.out] at he;subst he;have B7:=hD (bT B6.out b7);have R7:=hD (R6.out.below b7);obtain ⟨⟨t0,t1,t2,t3,t4,t5,t6,t7,t8⟩,t9,t10,t11⟩:=HX.out W7 B7.out;clear b7)
            | (go_at_call 36;(with_reducible refine (HMT.out _ _ B7.out R7.out).mono ?_);rintro e W8 ⟨a8,c8,rfl,r8,b8,n8⟩;have N8:=hD (fun b h=>Nat.le_trans (Nat.le_trans HWS.out B7.out.size) (n8 b h));have B8:=hD (bT B7.out b8);have R8:=hD r8;obtain ⟨⟨v0,v1,v2,v3,v4,v5,v6,v7,v8⟩,v9,v10,v11⟩:=HX.out W8 B8.out;clear b8 r8)
            | (at_builtin;obtain ⟨us,ul,usl,_,usr⟩:=HOA.out _ B8.out;refine wpList_append_sl rfl (.tmp 137) (.tmp 138) 22 rfl (W8).heap.size 61 i0 (.slice none 0 0) 1 24 Tryz.underlying22 hi0 hz0 hz1 hz2 rfl (by decide) _ 0 [] rfl (World.ownsRow_made W8 #[] 0 (rN _) (by decide) rfl) _ _ us rfl (usl.alloc _) (ds_one ul usr) (by omega) (by simp) ?_;intro v9 W9 ow9 bw9 _;have HM9:=hD (m_facts ul usr HOL2 ow9 bw9 hno);obtain ⟨g9,cp9,rfl,hcp9,f9,u9,cell9⟩:=HM9.out.1;have B9:=hD (bT B8.out HM9.out.2.1);have R9:=hD (R8.out.below HM9.out.2.1);have GL9:=hD HM9.out.2.2;obtain ⟨⟨p0,p1,p2,p3,p4,p5,p6,p7,p8⟩,p9,p10,p11⟩:=HX.out W9 B9.out;clear ow9 bw9 us ul usl usr))
           exact ⟨⟨i+1,out.set n E1,by omega,by go_num,hD (m_set HOL2 GL9.out.1 hno R9.out N8.out (Nat.le_trans HWS.out B8.out.size)),by show _=_;rw [List.length_set];exact HOL2,hD (hset.out _ HMN.out),HRS,hD ((HB.out.trans (B9.out.mono hsz)).setCell (p:=⟨g9,n,none⟩) (Nat.le_trans hsz (Nat.le_trans B8.out.size (GL9.out.2 g9 rfl))) _)⟩,by simp [intOf];omega⟩
       ·obtain rfl:i=L.length:=by omega
        have HR:Hid (RES=some out):=by show _=_;rw [HRES.out];exact HGE.out out
        obtain ⟨oa,ocap,rfl,_⟩:=HO.out.shape
        have HOO:=hD HO.out
        have HBB:=hD HB.out
        clear HO HB
        go_wp2
        go_ret2
        exact ⟨bT HW.out HBB.out,.inl ⟨out,_,_,HR.out,rfl,HOO.out⟩⟩
end
end Go.Proofs.YtaekdgikgbdnnaaGreat
