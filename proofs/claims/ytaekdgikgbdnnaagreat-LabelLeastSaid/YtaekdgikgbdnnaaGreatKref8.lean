/-
  The reference's Once of layer 16, of any constraint that Check has let by.
  coneyref17.Fix, walked: it comes to the greatest sets at which no constraint says anything new.
  Sets that lie wholly from a block on: what else is written does not touch them.
  SETS whose blocks are good ones: they stay while others are written; a stack of lists of sets.
-/
import Derived.Test.YtaekdgikgbdnnaaGreatKref6
import Derived.Test.YtaekdgikgbdnnaaGreatKref7
import Derived.Test.YtaekdgikgbdnnaaGreatKonce3
import Derived.Test.YtaekdgikgbdnnaaGreatKfix1
import Derived.Test.YtaekdgikgbdnnaaGreatKref4
import Derived.Test.YtaekdgikgbdnnaaGreatKlin2
import Derived.Deep.CutBlock
import Derived.Deep.DeepCutAuto
import Derived.Test.YtaekdgikgbdnnaaGreatKref1
import Derived.Test.YtaekdgikgbdnnaaGreatKsol1
namespace Go.Proofs.YtaekdgikgbdnnaaGreat
section
open Go.RowKit
theorem refOnce_all (p:PL) (va vb vv vds:Value) (ds:Ds) (w:World) (h0:IsAt w va p.coef) (h1:IsAt w vb p.vars) (h2:IsAt w vv p.vs) (hd:DsAt w vds ds)
  (hf:p.Fine ds) (hdl:ds.length<=4096) (hdm:∀ d∈ds,d.length<=4096) (hl1:p.vars.length<=4095) (hl2:p.vs.length<=4095) :
  Calls Tryz.prog 74 #[propV p.kind va vb p.rel p.c p.x p.y p.z vv,vds] w (RetF (onceP p ds) w):=by
 obtain ⟨kind,rel,c,x,y,z,coef,vars,vs⟩:=p
 dsimp only at h0 h1 h2 hl1 hl2 |-
 have hk:=hf.kind
 dsimp only at hk
 rcases hk with rfl | rfl | rfl | rfl
 ·exact refOnce1_c va vb vv vds rel c x y z coef vars vs ds w h0 h1 h2 hd hf hdl hdm hl1 hl2
 ·exact refOnce23_c 2 (.inl rfl) va vb vv vds rel c x y z coef vars vs ds w h0 h1 h2 hd hf hdl hdm hl1 hl2
 ·exact refOnce23_c 3 (.inr rfl) va vb vv vds rel c x y z coef vars vs ds w h0 h1 h2 hd hf hdl hdm hl1 hl2
 ·exact refOnce4_c va vb vv vds rel c x y z coef vars vs ds w h0 h1 h2 hd hf hdl hdm hl1 hl2
theorem Tryz.infoBool:(Tryz.prog.info? 4).map (fun i=>(i.zero,i.size,i.bytes))=some (some (.bool false),1,1):=by kernel_rfl
theorem mk_brows (n:Nat) (hn:n<=4096) (W:World):(Instr.makeSlice 111 (.int .i64 n) (.int .i64 n)).run Tryz.prog W=.ok (.slice (some ⟨W.heap.size,0,none⟩) n n) (W.alloc (.cells (madeCells #[.bool false] n) 4)):=by
 obtain ⟨i0,hi,hz0,hz1,hz2⟩:=info_parts Tryz.infoBool
 have h:=run_make (P:=Tryz.prog) W 111 4 i0 (.bool false) Tryz.underlying111 hi hz0 .i64 .i64 n n (by omega) (Int.le_refl _) (by rw [hz2];omega) (by omega)
 rw [h,hz1]
 simp [Value.cells]
theorem DsFrom.setBool {B:Nat} {w:World} {v:Value} {ds:Ds} (h:DsFrom B w v ds) {a:Addr} {c:Bool} (hs:w.cell? a=some (.bool c)) (u:Value):DsFrom B (w.setCell a u) v ds:=by
 obtain ⟨us,h1,⟨k1,ao,cap,rfl,k2,k3,k4,k5⟩,hb,h3⟩:=h
 refine ⟨us,h1,⟨k1,ao,cap,rfl,k2,k3,k4,fun hp=>?_⟩,hb,fun j hj=>?_⟩
 ·obtain ⟨b,off,rfl,hlt,hc⟩:=k5 hp
  refine ⟨b,off,rfl,by simpa [World.setCell] using hlt,fun j hj=>?_⟩
  rw [<- hc j hj]
  refine World.cell?_setCell_other _ _ _ _ (fun he=>?_)
  obtain ⟨x,e1,e2,_⟩:=h3 j (by omega)
  obtain ⟨ao',cap',rfl,_⟩:=e2.shape
  have:=hc j hj
  rw [<- he,hs,e1] at this
  cases this
 ·obtain ⟨x,e1,e2,e3⟩:=h3 j hj
  exact ⟨x,e1,e2.setBool hs u,e3⟩
theorem DsAt.lit1 {w:World} {u:Value} {d:List Rg} (h:RgAt w u d) (T:TypeId):DsAt (w.alloc (.cells #[u] T)) (.slice (some ⟨w.heap.size,0,none⟩) 1 1) [d]:=by
 have hlen:[d].length=1:=rfl
 refine ⟨[u],rfl,⟨rfl,some ⟨w.heap.size,0,none⟩,1,rfl,rN _,by decide,(fun h=>by cases h),fun _=>⟨w.heap.size,0,rfl,by simp,fun j hj=>?_⟩⟩,fun j hj=>?_⟩
 ·rw [hlen] at hj
  obtain rfl:j=0:=by omega
  simp
 ·rw [hlen] at hj
  obtain rfl:j=0:=by omega
  exact ⟨u,rfl,h.below (bA _)⟩
theorem bo_made (w:World) (n:Nat) (hn:n<=4096):(w.alloc (.cells (madeCells #[.bool false] n) 4)).ownsRow w.heap.size 4 1 (.slice (some ⟨w.heap.size,0,none⟩) n n) n ((List.replicate n false).map Value.bool):=by
 have h:=World.ownsRow_lit (base:=w.heap.size) w (madeCells #[.bool false] n) n (e:=4) (size:=1) (rN _) (by unfold maxLen;omega) (by simp [size_madeCells])
 rw [toList_madeCells_one] at h
 rw [List.map_replicate]
 exact h
structure RS (B:Nat) (W0:World) (NB n:Nat) (W:World) (sn:Value) (now:Ds) (nx:List Bool):Prop where
 nb:W0.heap.size=NB
 b:Below W0.heap.size W0 W
 now:DsFrom B W sn now
 own:W.ownsRow NB 4 1 (.slice (some ⟨NB,0,none⟩) n n) n (nx.map Value.bool)
theorem RS.below {B:Nat} {W0:World} {NB n:Nat} {W W':World} {sn:Value} {now:Ds} {nx:List Bool} (h:RS B W0 NB n W sn now nx) (hb:Below W.heap.size W W'):RS B W0 NB n W' sn now nx :=
 ⟨h.nb,bT h.b hb,h.now.below hb,own_below h.own hb⟩
theorem RS.len {B:Nat} {W0:World} {NB n:Nat} {W:World} {sn:Value} {now:Ds} {nx:List Bool} (h:RS B W0 NB n W sn now nx):nx.length=n:=by have:=h.own.1;simpa using this
theorem RS.bo {B:Nat} {W0:World} {NB n:Nat} {W:World} {sn:Value} {now:Ds} {nx:List Bool} (h:RS B W0 NB n W sn now nx):BoAt W (.slice (some ⟨NB,0,none⟩) n n) nx:=by
 have h1:=SlAt.of_own h.own
 unfold BoAt
 rw [h.len];exact h1
theorem RS.cell {B:Nat} {W0:World} {NB n:Nat} {W:World} {sn:Value} {now:Ds} {nx:List Bool} (h:RS B W0 NB n W sn now nx) {v:Nat} (hv:v<n):(∃ c,W.cell? ⟨NB,v,none⟩=some (.bool c))/\W.frozen? ⟨NB,v,none⟩=false:=by
 have hl:=h.len
 refine ⟨⟨nx[v]'(by omega),?_⟩,h.own.frozenAt v⟩
 rw [h.own.cellAt v (by omega),List.getElem?_map,List.getElem?_eq_getElem (by omega)];rfl
theorem RS.mark {B:Nat} {W0:World} {NB n:Nat} {W:World} {sn:Value} {now:Ds} {nx:List Bool} (h:RS B W0 NB n W sn now nx) {v:Nat} (hv:v<n):RS B W0 NB n (W.setCell ⟨NB,v,none⟩ (.bool true)) sn now (nx.set v true):=by
 obtain ⟨⟨c,hc⟩,_⟩:=h.cell hv
 refine ⟨h.nb,h.b.setCell (p:=⟨NB,v,none⟩) (Nat.le_of_eq h.nb) _,h.now.setBool hc _,?_⟩
 rw [List.map_set]
 exact (h.own.stored v (.bool true)).1
set_option maxRecDepth 100000
set_option maxHeartbeats 6400000
theorem refFix_c (ds:Ds) (ps:List PL) (vds vps:Value) (w:World) (hd:DsAt w vds ds) (hp:PsAt w vps ps) (hin:FixIn ds ps) :
  Calls Tryz.prog 49 #[vds,vps] w fun e w'=>∃ R,FixOf ps ds R/\RetF R w e w':=by
 obtain ⟨i0,hi0,hz0,hz1,hz2⟩:=info_parts Tryz.infoRgs
 obtain ⟨ad,cd,rfl,_⟩:=hd.shape
 obtain ⟨ap,cp,rfl,_⟩:=hp.shape
 have HD:=hD hd
 have HP:=hD hp
 have HIN:=hD hin
 have hn100:=hin.n
 have hp300:=hin.P
 have hmk:=mk_brows ds.length (by omega)
 have EN:Hid (∀ k,(hk:k<ds.length)->norm ds[k]=[]->FixOf ps ds none):=fun k hk h=>onWay_none hk (by rw [List.getD_eq_getElem?_getD,List.getElem?_eq_getElem hk];exact h)
 clear hd hp hin
 go_enter Tryz.func49,Tryz.ntmps49
 go_wp2
 go_loopw [6,7] (fun o s wr=>∃ k:Nat,∃ us:List Value,k<=ds.length/\s=.int .i64 k/\Hid (∀ j,(hj:j<ds.length)->j<k->norm ds[j]≠[])/\Hid (DsAppF wr w.heap.size o ((ds.take k).map norm) us)/\Hid (Below w.heap.size w wr)) (fun _ s _=>ds.length - (intOf s).toNat)
 case atStart=>exact ⟨0,[],by omega,rfl,fun j _ h=>by omega,hD (DsAppF.nil (World.ownsRow_made w #[] 0 (rN _) (by decide) rfl)),hD (bA _)⟩
 case round =>
  obtain ⟨k,us,hk,rfl,HN,HO,HB⟩:=hrel
  have hle:=HB.out.size
  by_cases hlt:k<ds.length
  ·obtain ⟨b,off,ao,cap,rfl,q1,q2,_,hc,hrg⟩:=(HD.out).get k hlt
   have j1:(k:Int)<ds.length:=by omega
   rw [<- HB.out.cell (p:=⟨b,off+k,none⟩) q2] at hc
   have CN:=hD (refNorm_n _ ds[k] wr (hrg.below HB.out) (HIN.out.dm _ (List.getElem_mem hlt)))
   have HST:Hid ((ds.take (k+1)).map norm=(ds.take k).map norm++[norm ds[k]]):=by
    show _=_
    rw [List.take_succ_eq_append_getElem hlt,List.map_append];rfl
   have hOl:((ds.take k).map norm).length<=4096:=by rw [List.length_map,List.length_take];omega
   have HE1:=hD (EN.out k hlt)
   have HN1:Hid (norm ds[k]≠[]->∀ j,(hj:j<ds.length)->j<k+1->norm ds[j]≠[]):=fun h j hj hjk=>by
    rcases Nat.lt_or_ge j k with g | g
    ·exact HN.out j hj g
    ·obtain rfl:j=k:=by omega
     exact h
   clear hrg
   generalize (ds.take k).map norm=O at *
   generalize ds[k]=d at *
   obtain ⟨oa,oc,rfl,_⟩:=(SlAt.of_own HO.out.row).shape
   by_cases hnil:norm d=[]
   ·have HE2:=hD (HE1.out hnil)
    have CN2:Hid (Calls Tryz.prog 47 #[.slice ao d.length cap] wr fun e W3=>∃ a3 c3,e=.returned (.slice a3 0 c3)/\Below wr.heap.size wr W3):=CN.out.mono fun e W3 ⟨a3,c3,he,_,hb,_⟩=>⟨a3,c3,by rw [he,hnil];rfl,hb⟩
    clear CN hnil HST HE1 HN1
    go_wp2_with (go_at_call 47;(with_reducible refine CN2.out.mono ?_);rintro e W3 ⟨a3,c3,rfl,b3⟩;have B3:=hD (HB.out.trans (b3.mono hle));clear b3)
    go_ret2
    exact ⟨none,HE2.out,B3.out,.inr ⟨rfl,rfl⟩⟩
   ·have HN2:=hD (HN1.out hnil)
    have hm0:(((norm d).length:Int)==0)=false:=by
     have:=List.length_pos_iff.2 hnil
     simp;omega
    clear HN1 hnil HE1
    go_wp2_with (first
     | (go_at_call 47;(with_reducible refine CN.out.mono ?_);rintro e W3 ⟨a3,c3,rfl,r3,b3,n3⟩;have HO3:=hD (HO.out.below b3);have HAP:=hD (apart_made HO.out.row n3);have N3:=hD (fun b h=>Nat.le_trans hle (n3 b h));have R3:=hD r3;have B3:=hD (HB.out.trans (b3.mono hle));have hle3:=b3.size;clear b3 r3 n3)
     | (at_builtin;refine wpList_append1L rfl (.tmp 36) (.tmp 38) 22 rfl w.heap.size 61 i0 (.slice none 0 0) 24 Tryz.underlying22 hi0 hz0 hz1 hz2 rfl _ _ _ rfl HO3.out.row _ rfl rfl (by omega) (by omega) ?_;intro g1 cap1 w1 o1 bw kw gw))
    refine ⟨⟨k+1,us++[.slice a3 (norm d).length c3],by omega,by go_num,HN2,?_,hD (B3.out.trans bw)⟩,by simp [intOf];omega⟩
    refine hD ?_
    rw [HST.out]
    exact DsAppF.push HO3.out R3.out (fun _=>HAP.out) N3.out o1 kw gw
  ·obtain rfl:k=ds.length:=by omega
   rw [List.take_length] at HO
   have OW:Hid (OnWay ps ds (ds.map norm)):=onWay_start (allE_of fun j hj=>HN.out j hj hj)
   have HT0:Hid (tot (ds.map norm)+0<=401 * ds.length):=by have:=tot_le (ds.map norm);rwa [List.length_map] at this
   obtain ⟨oa,oc,ho,_⟩:=(SlAt.of_own HO.out.row).shape
   rw [List.length_map] at ho
   subst ho
   have DW:Hid (DsFrom w.heap.size wr (.slice oa ds.length oc) (ds.map norm)):=HO.out.own.from (rN _)
   clear HN HO EN
   obtain ⟨W2,hW2⟩:∃ W2:World,W2=wr:=⟨_,rfl⟩
   subst hW2
   have B2:=hD HB.out
   clear HB hle hlt hk
   have ON0:Hid (BoAt (W2.alloc (.cells (madeCells #[.bool false] ds.length) 4)) (.slice (some ⟨W2.heap.size,0,none⟩) ds.length ds.length) (List.replicate ds.length false)):=by
    have h:=SlAt.of_own (bo_made W2 ds.length (by omega))
    show SlAt _ 1 _ (List.replicate ds.length false).length _
    rw [List.length_replicate];exact h
   go_wp2
   go_loopw [6,10,11] (fun sn so sr wr=>∃ (r:Nat) (now:Ds) (on:List Bool) (an:Option Addr) (cn:Nat) (ao:Option Addr) (co:Nat),sr=.int .i64 r/\sn=.slice an ds.length cn/\so=.slice ao ds.length co/\on.length=ds.length/\Hid (Rnd ps ds now now r on (List.replicate ds.length false) 0)/\Hid (DsFrom w.heap.size wr (.slice an ds.length cn) now)/\Hid (BoAt wr (.slice ao ds.length co) on)/\Hid (Below w.heap.size w wr)/\Hid (tot now+r<=401 * ds.length)) (fun _ _ sr _=>402 * ds.length+1 - (intOf sr).toNat)
   case atStart=>exact ⟨0,ds.map norm,List.replicate ds.length false,_,_,_,_,rfl,rfl,rfl,by simp,Rnd.start OW.out _ _,DW.out.below (bA _),ON0,hD (bL B2.out _),HT0⟩
   case round =>
    clear OW HT0 DW ON0 B2
    obtain ⟨r,now,on,an,cn,ao,co,rfl,rfl,rfl,honl,HRD,HDN,HON,HB,HTT⟩:=hrel
    have hr1:r<=401 * ds.length:=by have:=HTT.out;omega
    have j0:(r:Int)<=(ds.length:Int) * 402:=by omega
    have hle:=HB.out.size
    obtain ⟨W0,hW0⟩:∃ W0:World,W0=wr:=⟨_,rfl⟩
    subst hW0
    obtain ⟨NB,hNB⟩:∃ NB,NB=W0.heap.size:=⟨_,rfl⟩
    have HNB:=hD hNB.symm
    have HRS:Hid (RS w.heap.size W0 NB ds.length (W0.alloc (.cells (madeCells #[.bool false] ds.length) 4)) (.slice an ds.length cn) now (List.replicate ds.length false)):=by
     refine ⟨HNB.out,bA _,HDN.out.below (bA _),?_⟩
     rw [hNB];exact bo_made W0 ds.length (by omega)
    have PW:Hid (PsAt W0 (.slice ap ps.length cp) ps):=HP.out.below HB.out
    go_wp2
    rw [<- hNB] at *
    clear hNB
    go_loopw [6,14] (fun sn si wr=>∃ (i:Nat) (now2:Ds) (nx:List Bool) (an2:Option Addr) (cn2:Nat),i<=ps.length/\si=.int .i64 i/\sn=.slice an2 ds.length cn2/\Hid (Rnd ps ds now now2 r on nx i)/\Hid (RS w.heap.size W0 NB ds.length wr (.slice an2 ds.length cn2) now2 nx)) (fun _ si _=>ps.length - (intOf si).toNat)
    case atStart=>exact ⟨0,now,_,an,cn,by omega,rfl,rfl,HRD,HRS⟩
    case round =>
     clear HRS HRD hmk
     obtain ⟨i,now2,nx,an2,cn2,hil,rfl,rfl,HR2,HS2⟩:=hrel
     have hnxl:=HS2.out.len
     have hdl:=HR2.out.way.len
     by_cases hlt:i<ps.length
     ·obtain ⟨b1,o1,va,vb,vv,rfl,q1,cc,i0',i1',i2'⟩:=PW.out.get i hlt
      have j1:(i:Int)<ps.length:=by omega
      have hok:=HIN.out.ok _ (List.getElem_mem hlt)
      have HCC:Hid (∀ W,Below W0.heap.size W0 W->CellsP W b1 (o1+i * 9) ps[i] va vb vv):=fun W h=>cc.below q1 h
      obtain ⟨x0,x1,x2,x3,x4,x5,x6,x7,x8⟩:=HCC.out wr HS2.out.b
      have hfine:=(HIN.out.fine _ (List.getElem_mem hlt)).now hdl HR2.out.way.nor
      have hgd:∀ p∈ps,p.Good ds.length:=fun p hp=>(HIN.out.fine p hp).good
      obtain ⟨vs,hvs⟩:∃ vs,vs=uniqL ps[i].all:=⟨_,rfl⟩
      have CV0:Calls Tryz.prog 72 #[propV ps[i].kind va vb ps[i].rel ps[i].c ps[i].x ps[i].y ps[i].z vv] wr fun e w'=>∃ ao cap,e=.returned (.slice ao vs.length cap)/\IsAt w' (.slice ao vs.length cap) vs/\Below wr.heap.size wr w':=by
       rw [hvs]
       exact refVars_c ps[i].kind va vb vv ps[i].rel ps[i].c ps[i].x ps[i].y ps[i].z ps[i].coef ps[i].vars ps[i].vs wr (i0'.below HS2.out.b) (i1'.below HS2.out.b) (i2'.below HS2.out.b) (by have:=hok.2.1;omega) (by have:=hok.2.2;omega)
      have CO0:∀ W,Below W0.heap.size W0 W->DsAt W (.slice an2 ds.length cn2) now2->Calls Tryz.prog 74 #[propV ps[i].kind va vb ps[i].rel ps[i].c ps[i].x ps[i].y ps[i].z vv,.slice an2 ds.length cn2] W (RetF (onceP ps[i] now2) W):=fun W h hd=>refOnce_all ps[i] va vb vv _ now2 W (i0'.below h) (i1'.below h) (i2'.below h) hd hfine (by omega) (allN_short' HR2.out.way.nor) hok.2.1 hok.2.2
      have HVR:Hid (∀ v∈vs,0<=v/\v.toNat<ds.length):=fun v hv=>(HIN.out.fine _ (List.getElem_mem hlt)).vars v (mem_uniqL.1 (by rw [<- hvs];exact hv))
      have hvl:vs.length<=4096:=by rw [hvs];exact all_len hok
      have HSKIP:Hid (r≠0->marked vs on=false->marked vs nx=false->Rnd ps ds now now2 r on nx (i+1)):=fun h1 h2 h3=>by subst hvs;exact HR2.out.skip hlt h1 h2 h3
      have HASK:Hid (∀ d,onceP ps[i] now2=some d->Rnd ps ds now d r on (markTo now2 d vs nx vs.length) (i+1)):=fun d h=>by subst hvs;exact HR2.out.ask hgd hlt h (markOf_to (fun v hv=>by rw [hnxl];exact (HVR.out v hv).2))
      have HGONE:Hid (onceP ps[i] now2=none->FixOf ps ds none):=fun h=>HR2.out.gone hgd hlt h
      have HLN:Hid (∀ d,onceP ps[i] now2=some d->d.length=ds.length/\AllN d):=fun d h=>⟨(onceP_len h).trans hdl,onceP_normal h⟩
      obtain ⟨b3,n3,rfl,_⟩:=SlAt.shape i0'
      obtain ⟨b4,n4,rfl,_⟩:=SlAt.shape i1'
      obtain ⟨b5,n5,rfl,_⟩:=SlAt.shape i2'
      unfold propV at CV0 CO0
      have CV:=hD CV0
      have CO:=hD CO0
      have HNN:=hD HR2.out.way.nor
      clear hvs CV0 CO0 hok hfine hgd i0' i1' i2' cc
      generalize onceP ps[i] now2=RO at *
      generalize ps[i]=p at *
      go_upto_region 20 with (go_at_call 72;(with_reducible refine CV.out.mono ?_);rintro e W1 ⟨a5,c5,rfl,i5,b5'⟩;have I5:=hD i5;have S5:=hD (HS2.out.below b5');clear i5 b5')
      clear x0 x1 x2 x3 x4 x5 x6 x7 x8 CV HS2
      have CN1:Hid (Calls Tryz.prog 73 #[.slice a5 vs.length c5,.slice ao ds.length co] W1 fun e w'=>e=.returned (.bool (marked vs on))/\W1=w'):=named_c _ _ vs on W1 I5.out (HON.out.below S5.out.b) (by rw [honl];exact HVR.out) hvl
      have CN2:Hid (Calls Tryz.prog 73 #[.slice a5 vs.length c5,.slice (some ⟨NB,0,none⟩) ds.length ds.length] W1 fun e w'=>e=.returned (.bool (marked vs nx))/\W1=w'):=named_c _ _ vs nx W1 I5.out S5.out.bo (by rw [hnxl];exact HVR.out) hvl
      go_cut [79] from 55 to 123 (fun c wx=>c=.bool (decide (r≠0)&&!marked vs on&&!marked vs nx)/\wx=W1)
      case first =>
       generalize marked vs on=m1 at *
       generalize marked vs nx=m2 at *
       by_cases h0:r=0
       ·subst h0
        clear CN1 CN2
        go_wp2
        go_meet
        exact ⟨by simp,rfl⟩
       ·have hr0:(0:Int)<r:=by omega
        have hdec:decide (r≠0)=true:=by simpa using h0
        have HDEC:=hD hdec
        clear hdec h0
        cases m1
        ·cases m2
         ·go_wp2_with (first
           | (go_at_call 73;(with_reducible refine CN1.out.mono ?_);rintro e w' ⟨rfl,rfl⟩)
           | (go_at_call 73;(with_reducible refine CN2.out.mono ?_);rintro e w' ⟨rfl,rfl⟩))
          go_meet
          exact ⟨by rw [HDEC.out];rfl,rfl⟩
         ·go_wp2_with (first
           | (go_at_call 73;(with_reducible refine CN1.out.mono ?_);rintro e w' ⟨rfl,rfl⟩)
           | (go_at_call 73;(with_reducible refine CN2.out.mono ?_);rintro e w' ⟨rfl,rfl⟩))
          go_meet
          exact ⟨by rw [HDEC.out];rfl,rfl⟩
        ·clear CN2
         go_wp2_with (go_at_call 73;(with_reducible refine CN1.out.mono ?_);rintro e w' ⟨rfl,rfl⟩)
         go_meet
         exact ⟨by rw [HDEC.out];rfl,rfl⟩
      case rest =>
       obtain ⟨rfl,rfl⟩:=hcut
       clear CN1 CN2
       have B1w:Hid (Below w.heap.size w wc):=HB.out.trans (S5.out.b.mono hle)
       generalize marked vs on=m1 at *
       generalize marked vs nx=m2 at *
       cases hB:(decide (r≠0)&&!m1&&!m2) with
       | true =>
        have hB3:r≠0/\m1=false/\m2=false:=by
         rw [Bool.and_eq_true,Bool.and_eq_true,decide_eq_true_eq,Bool.not_eq_true',Bool.not_eq_true'] at hB
         exact ⟨hB.1.1,hB.1.2,hB.2⟩
        have HSK2:=hD (HSKIP.out hB3.1 hB3.2.1 hB3.2.2)
        clear HSKIP hB hB3 CO HASK HGONE HLN
        go_wp2
        exact ⟨⟨i+1,now2,nx,an2,cn2,by omega,by go_num,rfl,HSK2,S5⟩,by simp [intOf];omega⟩
       | false =>
        clear HSKIP hB
        obtain ⟨x0,x1,x2,x3,x4,x5,x6,x7,x8⟩:=HCC.out wc S5.out.b
        have CO1:=hD (CO.out wc S5.out.b S5.out.now.here)
        clear CO
        cases RO with
        | none =>
         have HF:=hD (HGONE.out rfl)
         have CO2:Hid (Calls Tryz.prog 74 #[.agg #[.int .i64 p.kind,.slice b3 p.coef.length n3,.slice b4 p.vars.length n4,.int .i64 p.rel,.int .i64 p.c,.int .i64 p.x,.int .i64 p.y,.int .i64 p.z,.slice b5 p.vs.length n5],.slice an2 ds.length cn2] wc fun e W'=>e=.returned (.tuple #[.slice none 0 0,.bool false])/\Below wc.heap.size wc W'):=CO1.out.mono fun e W' ⟨hb,hh⟩=>by
          rcases hh with ⟨_,_,_,h1,_⟩ | ⟨_,h1⟩
          ·cases h1
          ·exact ⟨h1,hb⟩
         clear CO1 HGONE HASK HLN
         go_wp2_with (go_at_call 74;(with_reducible refine CO2.out.mono ?_);rintro e W6 ⟨rfl,b6⟩;have B6:=hD (bT B1w.out b6);clear b6)
         go_ret2
         exact ⟨none,HF.out,B6.out,.inr ⟨rfl,rfl⟩⟩
        | some d =>
         obtain ⟨hd1,hd2⟩:=HLN.out d rfl
         have HD2:=hD hd2
         have HDL:=hD hd1
         have HASK2:=hD (HASK.out d rfl)
         have CO2:Hid (Calls Tryz.prog 74 #[.agg #[.int .i64 p.kind,.slice b3 p.coef.length n3,.slice b4 p.vars.length n4,.int .i64 p.rel,.int .i64 p.c,.int .i64 p.x,.int .i64 p.y,.int .i64 p.z,.slice b5 p.vs.length n5],.slice an2 ds.length cn2] wc fun e W'=>∃ ao cap,e=.returned (.tuple #[.slice ao ds.length cap,.bool true])/\DsFrom w.heap.size W' (.slice ao ds.length cap) d/\Below wc.heap.size wc W'):=CO1.out.mono fun e W' ⟨hb,hh⟩=>by
          rcases hh with ⟨d',ao,cap,h1,h2,h3⟩ | ⟨h1,_⟩
          ·have h1:=Option.some.inj h1
           subst h1
           rw [hd1] at h2 h3
           exact ⟨ao,cap,h2,h3.mono B1w.out.size,hb⟩
          ·cases h1
         clear CO1 HGONE HASK HLN hd1 hd2
         go_wp2_with (go_at_call 74;(with_reducible refine CO2.out.mono ?_);rintro e W6 ⟨a6,c6,rfl,d6,b6⟩;have D6:=hD d6;have S6:=hD (S5.out.below b6);have I6:=hD (I5.out.below b6);clear d6 b6)
         clear x0 x1 x2 x3 x4 x5 x6 x7 x8 CO2 S5 I5 HCC
         go_loopw [18] (fun s wr=>∃ t:Nat,t<=vs.length/\s=.int .i64 t/\Hid (RS w.heap.size W0 NB ds.length wr (.slice an2 ds.length cn2) now2 (markTo now2 d vs nx t))/\Hid (DsFrom w.heap.size wr (.slice a6 ds.length c6) d)/\Hid (IsAt wr (.slice a5 vs.length c5) vs)) (fun s _=>vs.length - (intOf s).toNat)
         case atStart=>exact ⟨0,by omega,rfl,S6,D6,I6⟩
         case round =>
          clear S6 D6 I6
          obtain ⟨t,htl,rfl,S7,D7,I7⟩:=hrel
          by_cases hlt2:t<vs.length
          ·obtain ⟨b6,o6,rfl,q5,q6,x6⟩:=I7.out.getR t hlt2
           have hvt:=HVR.out _ (List.getElem_mem hlt2)
           obtain ⟨nv,hnv⟩:=Int.eq_ofNat_of_zero_le hvt.1
           have hnl:nv<ds.length:=by have:=hvt.2;omega
           have HVT:Hid (vs[t]?=some (nv:Int)):=by show _=_;rw [List.getElem?_eq_getElem hlt2,hnv]
           rw [hnv] at x6
           have hn1:nv<now2.length:=by omega
           have hd1:nv<d.length:=by have:=HDL.out;omega
           obtain ⟨bn,on',an',cn',hen,_,qn,hq1,cellN,rgN⟩:=S7.out.now.get nv hn1
           obtain ⟨bd,od,ad',cd',hed,_,qd,hq2,cellD,rgD⟩:=D7.out.get nv hd1
           subst hen
           subst hed
           clear hq1 hq2
           have hdlx:=allN_short' HD2.out _ (List.getElem_mem hd1)
           have HST:Hid (markTo now2 d vs nx (t+1)=if d[nv]=now2[nv] then markTo now2 d vs nx t else (markTo now2 d vs nx t).set nv true):=by
            show _=_
            rw [markTo_step HVT.out,domOf_nat hd1,domOf_nat hn1,Int.toNat_natCast]
           have CS0:Calls Tryz.prog 75 #[.slice (some ⟨wr.heap.size,0,none⟩) 1 1,.slice (some ⟨wr.heap.size+1,0,none⟩) 1 1] ((wr.alloc (.cells #[.slice ad' d[nv].length cd'] 61)).alloc (.cells #[.slice an' now2[nv].length cn'] 61)) fun e w'=>e=.returned (.bool (decide ([d[nv]]=[now2[nv]])))/\Below wr.heap.size wr w':=by
            have hz1:Below wr.heap.size wr (wr.alloc (.cells #[.slice ad' d[nv].length cd'] 61)):=bA _
            have h1:=(DsAt.lit1 rgD 61).alloc (.cells #[.slice an' now2[nv].length cn'] 61)
            have h2:=DsAt.lit1 (rgN.below hz1) 61
            rw [show (wr.alloc (.cells #[.slice ad' d[nv].length cd'] 61)).heap.size=wr.heap.size+1 by simp] at h2
            have hz2:=hz1.alloc (by simp) (.cells #[.slice an' now2[nv].length cn'] 61)
            exact (same17_c _ _ [d[nv]] [now2[nv]] _ h1 h2 (by simp) (fun e he=>by rw [List.mem_singleton.1 he];exact hdlx)).mono fun e w' ⟨h3,h4⟩=>⟨h3,bT hz2 h4⟩
           have hone:decide ([d[nv]]=[now2[nv]])=decide (d[nv]=now2[nv]):=by simp
           rw [hone] at CS0
           have j3:(t:Int)<vs.length:=by omega
           have j4:(nv:Int)<ds.length:=by omega
           have ma:∀ o,(wr.alloc o).cell? ⟨b6,o6+t,none⟩=some (.int .i64 nv):=fun o=>Lib.cell?_alloc_some o x6
           have mb:∀ o,(wr.alloc o).cell? ⟨bn,on'+nv,none⟩=some (.slice an' now2[nv].length cn'):=fun o=>Lib.cell?_alloc_some o cellN
           have HXC:Hid (∀ W,Below wr.heap.size wr W->W.cell? ⟨b6,o6+t,none⟩=some (.int .i64 nv)):=fun W h=>(h.cell (p:=⟨b6,o6+t,none⟩) q6).trans x6
           clear hvt hnv rgN rgD hdlx hone
           generalize d[nv]=dx at *
           generalize now2[nv]=nxx at *
           have HDL2:=hD hdl
           have HNXL:=hD hnxl
           clear hn1 hd1 hdl hnxl
           by_cases hxe:dx=nxx
           ·have hdec:decide (dx=nxx)=true:=decide_eq_true hxe
            rw [hdec] at CS0
            have CS:=hD CS0
            have HS2:Hid (markTo now2 d vs nx (t+1)=markTo now2 d vs nx t):=by show _=_;rw [HST.out,if_pos hxe]
            clear CS0 HST hxe hdec
            go_wp2_with (go_at_call 75;(with_reducible refine CS.out.mono ?_);rintro e W8 ⟨rfl,b8⟩;have B8:=hD b8;clear b8)
            exact ⟨⟨t+1,by omega,by go_num,by rw [HS2.out];exact hD (S7.out.below B8.out),hD (D7.out.below B8.out),hD (I7.out.below B8.out)⟩,by simp [intOf];omega⟩
           ·have hdec:decide (dx=nxx)=false:=decide_eq_false hxe
            rw [hdec] at CS0
            have CS:=hD CS0
            have HS2:Hid (markTo now2 d vs nx (t+1)=(markTo now2 d vs nx t).set nv true):=by show _=_;rw [HST.out,if_neg hxe]
            clear CS0 HST hxe hdec
            go_wp2_with (go_at_call 75;(with_reducible refine CS.out.mono ?_);rintro e W8 ⟨rfl,b8⟩;have B8:=hD b8;have S8:=hD (S7.out.below b8);obtain ⟨⟨z8,zc8⟩,zf8⟩:=S8.out.cell hnl;have y8:=HXC.out W8 b8;clear b8)
            exact ⟨⟨t+1,by omega,by go_num,by rw [HS2.out];exact hD (S8.out.mark hnl),hD ((D7.out.below B8.out).setBool zc8 _),hD ((I7.out.below B8.out).setBool zc8 _)⟩,by simp [intOf];omega⟩
          ·obtain rfl:t=vs.length:=by omega
           go_wp2
           exact ⟨⟨i+1,d,markTo now2 d vs nx vs.length,a6,c6,by omega,by go_num,rfl,HASK2,hD ⟨S7.out.nb,S7.out.b,D7.out,S7.out.own⟩⟩,by simp [intOf];omega⟩
     ·obtain rfl:i=ps.length:=by omega
      have CS0:=same17_c (.slice an ds.length cn) (.slice an2 ds.length cn2) now now2 wr (HDN.out.here.below HS2.out.b) HS2.out.now.here (by have:=HR2.out.len;omega) (allN_short' HR2.out.wasN)
      have B1w:Hid (Below w.heap.size w wr):=HB.out.trans (HS2.out.b.mono hle)
      have HDL2:=hD hdl
      clear hdl
      by_cases hxe:now=now2
      ·have hdec:decide (now=now2)=true:=decide_eq_true hxe
       rw [hdec] at CS0
       have CS:=hD CS0
       have HF:Hid (FixOf ps ds (some now2)):=by
        have h:=HR2.out
        rw [hxe] at h
        exact h.stop
       clear CS0 hxe hdec HON HDN HTT
       go_wp2_with (go_at_call 75;(with_reducible refine CS.out.mono ?_);rintro e W8 ⟨rfl,b8⟩;have B8:=hD (bT B1w.out b8);have D8:=hD (HS2.out.now.below b8);clear b8)
       go_ret2
       exact ⟨some now2,HF.out,B8.out,.inl ⟨now2,an2,cn2,rfl,by rw [HDL2.out];rfl,by rw [HDL2.out];exact D8.out⟩⟩
      ·have hdec:decide (now=now2)=false:=decide_eq_false hxe
       rw [hdec] at CS0
       have CS:=hD CS0
       have HNX:=hD (HR2.out.next hxe ds.length)
       have HNXL:=hD hnxl
       clear CS0 hxe hdec hnxl
       go_wp2_with (go_at_call 75;(with_reducible refine CS.out.mono ?_);rintro e W8 ⟨rfl,b8⟩;have B8:=hD (bT B1w.out b8);have S8:=hD (HS2.out.below b8);clear b8)
       exact ⟨⟨r+1,now2,nx,an2,cn2,some ⟨NB,0,none⟩,ds.length,by go_num,rfl,rfl,HNXL.out,hD HNX.out.1,hD S8.out.now,hD S8.out.bo,B8,hD (by have:=HNX.out.2;have:=HTT.out;omega)⟩,by simp [intOf];omega⟩
def NewEl (B:Nat) (W:World) (g n:Nat):Prop:=∀ j,j<n->∀ u,W.cell? ⟨g,j,none⟩=some u->∀ b,u.ownBlock=some b->B<=b
theorem DsOwn.from {B:Nat} {W:World} {g n cap:Nat} {d:Ds} (h:DsOwn W B (.slice (some ⟨g,0,none⟩) n cap) d) (hg:B<=g) (hn:NewEl B W g d.length) (hd:n=d.length):DsFrom B W (.slice (some ⟨g,0,none⟩) n cap) d:=by
 subst hd
 have hown:=h
 obtain ⟨us,h1,h2,h3⟩:=h
 refine ⟨us,h1,SlAt.of_own h2,fun b e=>?_,fun j hj=>?_⟩
 ·simp [Value.ownBlock] at e;omega
 ·obtain ⟨u,e1,e2⟩:=h3 j hj
  refine ⟨u,e1,e2,fun b e=>hn j hj u ?_ b e⟩
  obtain ⟨g',cap',ao',c',he,_,_,_,hc,_,_⟩:=hown.get j hj
  simp only [Value.slice.injEq,Option.some.injEq,Addr.mk.injEq,and_true] at he
  obtain ⟨rfl,_⟩:=he
  rw [h2.cellAt j (by omega),e1]
theorem OutAt.from {W:World} {B bo g:Nat} {d:Ds} (h:OutAt W B bo g d):DsFrom B W (.slice (some ⟨g,0,none⟩) d.length d.length) d:=DsOwn.from h.own h.gl h.new rfl
theorem kept_from {W:World} {B C qb mb:Nat} {pl v:Value} {d:Ds} (h:DsFrom C W v d) (hc:B<=C) (ho:Old C qb mb pl):KeptM qb mb W pl (fun W'=>DsFrom B W' v d) :=
 fun _ _ hs=>DsFrom.mono (h.on hs.b0.size (fun _ hb hb'=>ho.keeps hs hb hb')) hc
theorem NewEl.made (w:World) (n:Nat) (hn:n<=4096) (B:Nat) (T:TypeId):NewEl B (w.alloc (.cells (madeCells #[.slice none 0 0] n) T)) w.heap.size n:=by
 intro j hj u hu b e
 have h3:=World.ownsRow_lit (base:=w.heap.size) w (madeCells #[.slice none 0 0] n) n (e:=T) (size:=1) (rN _) (by unfold maxLen;omega) (by simp [size_madeCells])
 rw [toList_madeCells_one] at h3
 obtain ⟨g2,cap2,he,_,hcs⟩:=owns_pos h3 (by omega)
 simp only [Value.slice.injEq,Option.some.injEq,Addr.mk.injEq,and_true] at he
 obtain ⟨hg2,_⟩:=he
 subst hg2
 have h4:=hcs j (by omega)
 rw [List.getElem?_replicate,if_pos hj] at h4
 rw [h4] at hu
 injection hu with hu
 subst hu
 simp [Value.ownBlock] at e
theorem NewEl.set {B:Nat} {W:World} {g n k:Nat} {u z:Value} (h:NewEl B W g n) (hz:W.cell? ⟨g,k,none⟩=some z) (hu:∀ b,u.ownBlock=some b->B<=b):NewEl B (W.setCell ⟨g,k,none⟩ u) g n:=by
 intro j hj x hx b hb
 by_cases e:k=j
 ·subst e
  rw [World.cell?_setCell_same _ _ _ hz] at hx
  injection hx with hx
  exact hu b (by rw [hx];exact hb)
 ·rw [World.cell?_setCell_other _ _ _ _ (fun h=>by cases h;exact e rfl)] at hx
  exact h j hj x hx b hb
theorem NewEl.below {B:Nat} {W W':World} {g n:Nat} (h:NewEl B W g n) (hb:Below W.heap.size W W') (hg:g<W.heap.size):NewEl B W' g n:=fun j hj u hu b e=>h j hj u (by rw [<- hb.cell (p:=⟨g,j,none⟩) hg];exact hu) b e
theorem SlAt.ownP {w w':World} {k:Nat} {v:Value} {n:Nat} {xs:List Value} (h:SlAt w k v n xs) (hs:w.heap.size<=w'.heap.size) (hb:0<n * k->∀ b,b<w.heap.size->v.ownBlock=some b->w'.heap[b]?=w.heap[b]?):SlAt w' k v n xs:=by
 obtain ⟨h1,ao,cap,rfl,h2,h3,h5,h4⟩:=h
 refine ⟨h1,ao,cap,rfl,h2,h3,h5,fun hp=>?_⟩
 obtain ⟨b,off,rfl,hlt,hc⟩:=h4 hp
 refine ⟨b,off,rfl,Nat.lt_of_lt_of_le hlt hs,fun j hj=>?_⟩
 rw [<- hc j hj]
 exact World.cell?_of_block (a:=⟨b,off+j,none⟩) (hb hp b hlt rfl)
theorem SlAt.live {w:World} {k:Nat} {v:Value} {n:Nat} {xs:List Value} (h:SlAt w k v n xs) (hp:0<n * k):∀ b,v.ownBlock=some b->b<w.heap.size:=fun b hb=>by
 obtain ⟨h1,ao,cap,rfl,h2,h3,h5,h4⟩:=h
 obtain ⟨b',off,rfl,hlt,hc⟩:=h4 hp
 simp [Value.ownBlock] at hb;omega
def RgQ (Q:Nat->Prop) (W:World) (u:Value) (d:List Rg):Prop:=RgAt W u d/\(d≠[]->∀ b,u.ownBlock=some b->Q b)
theorem pos2 {d:List Rg} (h:d≠[]):0<d.length * 2:=by have:=List.length_pos_iff.2 h;omega
theorem ne2 {d:List Rg} (h:0<d.length * 2):d≠[]:=fun e=>by subst e;simp at h
theorem RgQ.on {Q:Nat->Prop} {W W':World} {u:Value} {d:List Rg} (h:RgQ Q W u d) (hs:W.heap.size<=W'.heap.size) (hb:∀ b,b<W.heap.size->Q b->W'.heap[b]?=W.heap[b]?):RgQ Q W' u d :=
 ⟨SlAt.ownP h.1 hs (fun hp b hb' e=>hb b hb' (h.2 (ne2 hp) b e)),h.2⟩
theorem RgQ.weaken {Q Q':Nat->Prop} {W:World} {u:Value} {d:List Rg} (h:RgQ Q W u d) (hq:∀ b,b<W.heap.size->Q b->Q' b):RgQ Q' W u d :=
 ⟨h.1,fun hne b e=>hq b (SlAt.live h.1 (pos2 hne) b e) (h.2 hne b e)⟩
theorem RgQ.of_new {Q:Nat->Prop} {W:World} {u:Value} {d:List Rg} {B:Nat} (h:RgAt W u d) (hn:∀ b,u.ownBlock=some b->B<=b) (hq:∀ b,B<=b->Q b):RgQ Q W u d:=⟨h,fun _ b e=>hq b (hn b e)⟩
def DsQ (Q:Nat->Prop) (W:World) (v:Value) (D:Ds):Prop :=
 ∃ us:List Value,us.length=D.length/\SlAt W 1 v D.length us/\(D≠[]->∀ b,v.ownBlock=some b->Q b)/\∀ j,(hj:j<D.length)->∃ u,us[j]?=some u/\RgQ Q W u D[j]
theorem DsQ.at {Q:Nat->Prop} {W:World} {v:Value} {D:Ds} (h:DsQ Q W v D):DsAt W v D:=by
 obtain ⟨us,h1,h2,h3,h4⟩:=h
 exact ⟨us,h1,h2,fun j hj=>by obtain ⟨u,a,b⟩:=h4 j hj;exact ⟨u,a,b.1⟩⟩
theorem DsQ.on {Q:Nat->Prop} {W W':World} {v:Value} {D:Ds} (h:DsQ Q W v D) (hs:W.heap.size<=W'.heap.size) (hb:∀ b,b<W.heap.size->Q b->W'.heap[b]?=W.heap[b]?):DsQ Q W' v D:=by
 obtain ⟨us,h1,h2,h3,h4⟩:=h
 exact ⟨us,h1,h2.ownP hs (fun hp b hb' e=>hb b hb' (h3 (fun e=>by subst e;simp at hp) b e)),h3,fun j hj=>by obtain ⟨u,a,b⟩:=h4 j hj;exact ⟨u,a,b.on hs hb⟩⟩
theorem DsQ.below {Q:Nat->Prop} {W W':World} {v:Value} {D:Ds} (h:DsQ Q W v D) (hb:Below W.heap.size W W'):DsQ Q W' v D:=h.on hb.size (fun b h _=>hb.block b h)
theorem DsQ.weaken {Q Q':Nat->Prop} {W:World} {v:Value} {D:Ds} (h:DsQ Q W v D) (hq:∀ b,b<W.heap.size->Q b->Q' b):DsQ Q' W v D:=by
 obtain ⟨us,h1,h2,h3,h4⟩:=h
 exact ⟨us,h1,h2,fun hne b e=>hq b (h2.live (by have:=List.length_pos_iff.2 hne;omega) b e) (h3 hne b e),fun j hj=>by obtain ⟨u,a,b⟩:=h4 j hj;exact ⟨u,a,b.weaken hq⟩⟩
theorem DsFrom.good {B:Nat} {W:World} {v:Value} {D:Ds} {Q:Nat->Prop} (h:DsFrom B W v D) (hq:∀ b,B<=b->Q b):DsQ Q W v D:=by
 obtain ⟨us,h1,h2,h3,h4⟩:=h
 exact ⟨us,h1,h2,fun _ b e=>hq b (h3 b e),fun j hj=>by obtain ⟨u,a,b,c⟩:=h4 j hj;exact ⟨u,a,b,fun _ b e=>hq b (c b e)⟩⟩
theorem DsQ.get {Q:Nat->Prop} {W:World} {v:Value} {D:Ds} (h:DsQ Q W v D) (j:Nat) (hj:j<D.length):∃ u,RgQ Q W u D[j]:=by
 obtain ⟨us,h1,h2,h3,h4⟩:=h
 obtain ⟨u,_,b⟩:=h4 j hj
 exact ⟨u,b⟩
theorem DsQ.of_input {Q:Nat->Prop} {w W:World} {v:Value} {D:Ds} (h:DsAt w v D) (hb:Below w.heap.size w W) (hq:∀ b,b<w.heap.size->Q b):DsQ Q W v D:=by
 obtain ⟨us,h1,h2,h3⟩:=h
 refine ⟨us,h1,h2.below hb,fun hne b e=>hq b (h2.live (by have:=List.length_pos_iff.2 hne;omega) b e),fun j hj=>?_⟩
 obtain ⟨u,a,c⟩:=h3 j hj
 exact ⟨u,a,c.below hb,fun hne b e=>hq b (SlAt.live c (pos2 hne) b e)⟩
structure StAt (Q:Nat->Prop) (W:World) (B g cap:Nat) (st:List Ds) (us:List Value):Prop where
 len:us.length=st.length
 own:W.ownsRow B 22 1 (.slice (some ⟨g,0,none⟩) st.length cap) st.length us
 good:Q g
 el:∀ j,(hj:j<st.length)->∃ u,us[j]?=some u/\DsQ (fun b=>Q b/\b≠g) W u (st.reverse[j]'(by rw [List.length_reverse];exact hj))
theorem StAt.on {Q:Nat->Prop} {W W':World} {B g cap:Nat} {st:List Ds} {us:List Value} (h:StAt Q W B g cap st us) (hs:W.heap.size<=W'.heap.size) (hb:∀ b,b<W.heap.size->Q b->W'.heap[b]?=W.heap[b]?):StAt Q W' B g cap st us :=
 ⟨h.len,own_block h.own (fun b e=>by
  have h1:=(own_lt h.own e).1
  have:b=g:=by simpa [Value.ownBlock] using e.symm
  exact hb b h1 (this ▸ h.good)),h.good,fun j hj=>by
  obtain ⟨u,a,b⟩:=h.el j hj
  exact ⟨u,a,b.on hs (fun b' h1 h2=>hb b' h1 h2.1)⟩⟩
theorem StAt.below {Q:Nat->Prop} {W W':World} {B g cap:Nat} {st:List Ds} {us:List Value} (h:StAt Q W B g cap st us) (hb:Below W.heap.size W W'):StAt Q W' B g cap st us:=h.on hb.size (fun b h _=>hb.block b h)
theorem StAt.lt {Q:Nat->Prop} {W:World} {B g cap:Nat} {st:List Ds} {us:List Value} (h:StAt Q W B g cap st us):B<=g/\g<W.heap.size:=by
 have:=own_lt h.own (b:=g) rfl
 exact ⟨this.2,this.1⟩
theorem StAt.weaken {Q Q':Nat->Prop} {W:World} {B g cap:Nat} {st:List Ds} {us:List Value} (h:StAt Q W B g cap st us) (hq:∀ b,b<W.heap.size->Q b->Q' b):StAt Q' W B g cap st us :=
 ⟨h.len,h.own,hq g h.lt.2 h.good,fun j hj=>by
  obtain ⟨u,a,b⟩:=h.el j hj
  exact ⟨u,a,b.weaken (fun b' h1 h2=>⟨hq b' h1 h2.1,h2.2⟩)⟩⟩
theorem StAt.top {Q:Nat->Prop} {W:World} {B g cap:Nat} {D:Ds} {st:List Ds} {us:List Value} (h:StAt Q W B g cap (D::st) us) :
  ∃ ao c,W.cell? ⟨g,st.length,none⟩=some (.slice ao D.length c)/\DsQ (fun b=>Q b/\b≠g) W (.slice ao D.length c) D:=by
 obtain ⟨u,a,b⟩:=h.el st.length (by simp)
 have e:(D::st).reverse[st.length]'(by simp)=D:=by simp
 rw [e] at b
 obtain ⟨ao,c,rfl,_⟩:=b.at.shape
 refine ⟨ao,c,?_,b⟩
 rw [h.own.cellAt st.length (by simp),a]
theorem own_shrink {W:World} {B e g cap n:Nat} {us:List Value} (h:W.ownsRow B e 1 (.slice (some ⟨g,0,none⟩) (n+1) cap) (n+1) us):W.ownsRow B e 1 (.slice (some ⟨g,0,none⟩) n cap) n (us.take n):=by
 obtain ⟨h1,h2⟩:=h
 rcases h2 with ⟨h3,_⟩ | ⟨g',cap',cur,he,a1,a2,a3,a4,a5,a6⟩
 ·cases h3
 ·simp only [Value.slice.injEq,Option.some.injEq,Addr.mk.injEq,and_true,true_and] at he
  obtain ⟨rfl,rfl⟩:=he
  refine ⟨by rw [List.length_take,h1];omega,.inr ⟨g,cap,cur,rfl,a1,a2,by omega,a4,a5,?_⟩⟩
  rw [<- a6,List.take_take]
  congr 1
  omega
theorem StAt.pop {Q:Nat->Prop} {W:World} {B g cap:Nat} {D:Ds} {st:List Ds} {us:List Value} (h:StAt Q W B g cap (D::st) us):StAt Q W B g cap st (us.take st.length):=by
 refine ⟨by rw [List.length_take,h.len,List.length_cons];omega,own_shrink h.own,h.good,fun j hj=>?_⟩
 obtain ⟨u,a,b⟩:=h.el j (by rw [List.length_cons];omega)
 have e:(D::st).reverse[j]'(by simp;omega)=st.reverse[j]'(by rw [List.length_reverse];exact hj):=by
  simp only [List.reverse_cons]
  rw [List.getElem_append_left (by rw [List.length_reverse];exact hj)]
 rw [e] at b
 exact ⟨u,by rw [List.getElem?_take,if_pos hj];exact a,b⟩
theorem StAt.push {Q:Nat->Prop} {W W':World} {B g cap g' cap':Nat} {st:List Ds} {us:List Value} (h:StAt Q W B g cap st us) {a b:Ds} {ua ub:Value}
  (ha:DsQ (fun b=>Q b/\b≠g) W ua a) (hb:DsQ (fun b=>Q b/\b≠g) W ub b)
  (ho:W'.ownsRow B 22 1 (.slice (some ⟨g',0,none⟩) (st.length+2) cap') (st.length+2) (us++[ub,ua])) (hs:W.heap.size<=W'.heap.size)
  (hk:∀ k,k<W.heap.size->k≠g->W'.heap[k]?=W.heap[k]?) (hg:g'=g\/(W.heap.size<=g'/\Q g')):StAt Q W' B g' cap' (a::b::st) (us++[ub,ua]):=by
 have hon:∀ {u:Value} {D:Ds},DsQ (fun b=>Q b/\b≠g) W u D->DsQ (fun b=>Q b/\b≠g') W' u D:=fun {u D} h0=>by
  have h1:=h0.weaken (Q':=fun b=>Q b/\b≠g/\b≠g') (fun b h1 h2=>⟨h2.1,h2.2,by
   rcases hg with e | ⟨e,_⟩
   ·rw [e];exact h2.2
   ·omega⟩)
  have h2:=h1.on (W':=W') hs (fun b h1 h2=>hk b h1 h2.2.1)
  exact h2.weaken (fun b _ h2=>⟨h2.1,h2.2.2⟩)
 refine ⟨by simp [h.len],ho,?_,fun j hj=>?_⟩
 ·rcases hg with e | ⟨_,e⟩
  ·rw [e];exact h.good
  ·exact e
 ·rw [List.length_cons,List.length_cons] at hj
  by_cases h1:j<st.length
  ·obtain ⟨u,e1,e2⟩:=h.el j h1
   have e:(a::b::st).reverse[j]'(by simp;omega)=st.reverse[j]'(by rw [List.length_reverse];exact h1):=by
    simp only [List.reverse_cons,List.append_assoc]
    rw [List.getElem_append_left (by rw [List.length_reverse];exact h1)]
   rw [e]
   exact ⟨u,by rw [List.getElem?_append_left (by rw [h.len];exact h1)];exact e1,hon e2⟩
  ·by_cases h2:j=st.length
   ·subst h2
    have e:(a::b::st).reverse[st.length]'(by simp)=b:=by simp
    rw [e]
    exact ⟨ub,by rw [List.getElem?_append_right (by rw [h.len];exact rN _),h.len];simp,hon hb⟩
   ·obtain rfl:j=st.length+1:=by omega
    have e:(a::b::st).reverse[st.length+1]'(by simp)=a:=by simp
    rw [e]
    exact ⟨ua,by rw [List.getElem?_append_right (by rw [h.len];omega),h.len];simp,hon ha⟩
theorem StAt.one {Q:Nat->Prop} {W:World} {v:Value} {D:Ds} (h:DsQ Q W v D) (hq:Q W.heap.size) {B:Nat} (hB:B<=W.heap.size):StAt Q (W.alloc (.cells #[v] 22)) B W.heap.size 1 [D] [v]:=by
 refine ⟨rfl,?_,hq,fun j hj=>?_⟩
 ·have:=World.ownsRow_lit (base:=B) W #[v] 1 (e:=22) (size:=1) hB (by decide) rfl
  exact this
 ·obtain rfl:j=0:=by simpa using hj
  refine ⟨v,rfl,?_⟩
  have h1:=(h.weaken (Q':=fun b=>Q b/\b≠W.heap.size) (fun b h1 h2=>⟨h2,by omega⟩)).below ((Below.refl _ W).alloc (rN _) (.cells #[v] 22))
  exact h1
end
end Go.Proofs.YtaekdgikgbdnnaaGreat
