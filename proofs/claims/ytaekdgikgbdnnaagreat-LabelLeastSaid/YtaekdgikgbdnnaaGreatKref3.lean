/-
  rel.Once of a constraint of kind 2 (product), walked.
  rel.Once of a constraint of kind 3 (differ), walked.
-/
import Derived.Test.YtaekdgikgbdnnaaGreatKref2
namespace Go.Proofs.YtaekdgikgbdnnaaGreat
section
open Go.RowKit
set_option maxRecDepth 100000
set_option maxHeartbeats 3200000
theorem once2_c (va vb vv vds:Value) (rel c:Int) (nx ny nz:Nat) (coef vars vs:List Int) (ds:Ds) (w:World) (h0:IsAt w va coef) (h1:IsAt w vb vars) (h2:IsAt w vv vs) (hd:DsAt w vds ds)
  (hf:(PL.mk 2 rel c (nx:Int) (ny:Int) (nz:Int) coef vars vs).Fine ds) (hdl:ds.length<=4096) (hdm:∀ d∈ds,d.length<=4096) :
  Calls Tryz.prog 66 #[propV 2 va vb rel c (nx:Int) (ny:Int) (nz:Int) vv,vds] w (RetOW (onceP (PL.mk 2 rel c (nx:Int) (ny:Int) (nz:Int) coef vars vs) ds) w):=by
 obtain ⟨a0,c0,rfl,_⟩:=IsAt.shape h0
 obtain ⟨a1,c1,rfl,_⟩:=IsAt.shape h1
 obtain ⟨a2,c2,rfl,_⟩:=IsAt.shape h2
 obtain ⟨ad,cd,rfl,_⟩:=hd.shape
 have hall:(PL.mk 2 rel c (nx:Int) (ny:Int) (nz:Int) coef vars vs).all=[(nx:Int),ny,nz]:=rfl
 have HZ:Hid (Below w.heap.size w (w.alloc (.cells #[.int .i64 2,.slice a0 coef.length c0,.slice a1 vars.length c1,.int .i64 rel,.int .i64 c,.int .i64 nx,.int .i64 ny,.int .i64 nz,.slice a2 vs.length c2] 67))):=bA _
 have CO:Hid (Calls Tryz.prog 84 #[.agg #[.int .i64 2,.slice a0 coef.length c0,.slice a1 vars.length c1,.int .i64 rel,.int .i64 c,.int .i64 nx,.int .i64 ny,.int .i64 nz,.slice a2 vs.length c2]] (w.alloc (.cells #[.int .i64 2,.slice a0 coef.length c0,.slice a1 vars.length c1,.int .i64 rel,.int .i64 c,.int .i64 nx,.int .i64 ny,.int .i64 nz,.slice a2 vs.length c2] 67)) fun e w'=>e=.returned (.iface 141 (.agg #[.int .i64 nx,.int .i64 ny,.int .i64 nz]))/\Below (w.alloc (.cells #[.int .i64 2,.slice a0 coef.length c0,.slice a1 vars.length c1,.int .i64 rel,.int .i64 c,.int .i64 nx,.int .i64 ny,.int .i64 nz,.slice a2 vs.length c2] 67)).heap.size (w.alloc (.cells #[.int .i64 2,.slice a0 coef.length c0,.slice a1 vars.length c1,.int .i64 rel,.int .i64 c,.int .i64 nx,.int .i64 ny,.int .i64 nz,.slice a2 vs.length c2] 67)) w'):=of_c 2 a0 a1 a2 coef.length vars.length vs.length c0 c1 c2 rel c (nx:Int) (ny:Int) (nz:Int) _
 have CV:Hid (∀ W,Below w.heap.size w W->Calls Tryz.prog 183 #[.agg #[.int .i64 nx,.int .i64 ny,.int .i64 nz]] W fun e w'=>∃ ao cap,e=.returned (.slice ao 3 cap)/\IsAt w' (.slice ao 3 cap) [(nx:Int),ny,nz]/\Below W.heap.size W w'):=fun W h=>varsProd_c nx ny nz W
 have CNR:Hid (∀ W2 W5 vw bo g,Below w.heap.size w W2->DsAt W2 vw (ds.map norm)->Below W2.heap.size W2 W5->OutAt W5 W2.heap.size bo g (ds.map norm)->Calls Tryz.prog 182 #[.agg #[.int .i64 nx,.int .i64 ny,.int .i64 nz],vw,.func (.func 92) #[] #[.pointer (some ⟨bo,0,none⟩)]] W5 (NarR (narrowKs (PL.mk 2 rel c (nx:Int) (ny:Int) (nz:Int) coef vars vs) (ds.map norm)) W2.heap.size bo g (ds.map norm) W5)):=fun W2 W5 vw bo g hW2 hvw hb5 ho =>
  narProd_c _ nx ny nz (ds.map norm) (ds.map norm) W2 W5 W2.heap.size bo g rfl hb5 hvw (by have:=(hf.vars nx (by rw [hall];simp)).2;simpa using this) (by have:=(hf.vars ny (by rw [hall];simp)).2;simpa using this) (by have:=(hf.vars nz (by rw [hall];simp)).2;simpa using this) (by simpa using hdl) (allN_norm ds) ho rfl
 have CN:Hid (∀ d,d∈ds->∀ vd W,RgAt W vd d->Calls Tryz.prog 54 #[vd] W (RetR (norm d) W)):=fun d hm vd W hr=>norm_c vd d W hr (hdm d hm)
 have HD:=hD hd
 have HST:=hD (normTo_step ds)
 have HNL:=hD (normTo_len ds)
 have HST2:=hD (normTo_step (ds.map norm))
 have HNL2:=hD (normTo_len (ds.map norm))
 have H02:=hD (normTo_zero (ds.map norm))
 have HA2:Hid (normTo (ds.map norm) (ds.map norm).length=ds.map norm):=(normTo_all _).trans (norm_norm_map ds)
 have HWL:Hid ((ds.map norm).length=ds.length):=by show _=_;simp
 have HW2:Hid (∀ d∈ds.map norm,d.length<=201):=len201
 have HNN:Hid (∀ d∈ds.map norm,norm d=d):=fun d hd=>by obtain ⟨e,_,rfl⟩:=List.mem_map.1 hd;exact norm_norm e
 have HAL:Hid ([(nx:Int),ny,nz].length<=4097):=by
  show _<=_
  simp
 have HVV:Hid (∀ v∈[(nx:Int),ny,nz],0<=v/\v.toNat<(ds.map norm).length):=fun v hv=>by have:=hf.vars v hv;simpa using this
 have hmk:=mk_rows ds.length hdl
 have EN:Hid (anyNil [(nx:Int),ny,nz] (ds.map norm)=true->onceP (PL.mk 2 rel c (nx:Int) (ny:Int) (nz:Int) coef vars vs) ds=none):=fun h=>onceP_nil (p:=(PL.mk 2 rel c (nx:Int) (ny:Int) (nz:Int) coef vars vs)) h
 have ENo:Hid (anyNil [(nx:Int),ny,nz] (ds.map norm)=false->narrowKs (PL.mk 2 rel c (nx:Int) (ny:Int) (nz:Int) coef vars vs) (ds.map norm)=none->onceP (PL.mk 2 rel c (nx:Int) (ny:Int) (nz:Int) coef vars vs) ds=none):=fun h hk=>onceP_no (p:=(PL.mk 2 rel c (nx:Int) (ny:Int) (nz:Int) coef vars vs)) h hk
 have EG:Hid (∀ ks,anyNil [(nx:Int),ny,nz] (ds.map norm)=false->narrowKs (PL.mk 2 rel c (nx:Int) (ny:Int) (nz:Int) coef vars vs) (ds.map norm)=some ks->anyNil [(nx:Int),ny,nz] (keepsL ks (ds.map norm))=true->onceP (PL.mk 2 rel c (nx:Int) (ny:Int) (nz:Int) coef vars vs) ds=none):=fun ks h hk he=>onceP_gone (p:=(PL.mk 2 rel c (nx:Int) (ny:Int) (nz:Int) coef vars vs)) h hk he
 have ES:Hid (∀ ks,anyNil [(nx:Int),ny,nz] (ds.map norm)=false->narrowKs (PL.mk 2 rel c (nx:Int) (ny:Int) (nz:Int) coef vars vs) (ds.map norm)=some ks->anyNil [(nx:Int),ny,nz] (keepsL ks (ds.map norm))=false->onceP (PL.mk 2 rel c (nx:Int) (ny:Int) (nz:Int) coef vars vs) ds=some (keepsL ks (ds.map norm))):=fun ks h hk he=>onceP_some (p:=(PL.mk 2 rel c (nx:Int) (ny:Int) (nz:Int) coef vars vs)) h hk he
 clear h0 h1 h2 hd hf hdm hall
 generalize onceP (PL.mk 2 rel c (nx:Int) (ny:Int) (nz:Int) coef vars vs) ds=RES at *
 generalize narrowKs (PL.mk 2 rel c (nx:Int) (ny:Int) (nz:Int) coef vars vs) (ds.map norm)=NK at *
 obtain ⟨was,hwas⟩:∃ was,was=ds.map norm:=⟨_,rfl⟩
 have HTA:=hD (normTo_all ds)
 rw [<- hwas] at CNR HST2 HNL2 H02 HA2 HWL HW2 HNN HVV EN ENo EG ES HTA
 have HWS:=hD hwas
 clear hwas
 unfold propV
 go_enter Tryz.func66,Tryz.ntmps66
 go_wp2_with (go_at_call 84;(with_reducible refine CO.out.mono ?_);rintro e W1 ⟨rfl,bb⟩;have B1:=hD (bT HZ.out bb);clear bb)
 obtain ⟨BO,hBO⟩:∃ BO,BO=W1.heap.size:=⟨_,rfl⟩
 rw [<- hBO]
 have HSZ:=hD hBO.symm
 clear hBO
 go_loopw [22] (fun s wr=>∃ k:Nat,k<=ds.length/\s=.int .i64 k/\DsOwn wr BO (.slice (some ⟨BO,0,none⟩) ds.length ds.length) (normTo ds k)/\Below W1.heap.size W1 wr) (fun s _=>ds.length - (intOf s).toNat)
 case atStart=>exact ⟨0,by omega,rfl,by rw [normTo_zero];have h:=DsOwn.made W1 ds.length (by unfold maxLen;omega) _ rfl;rw [HSZ.out] at h;exact h,bA _⟩
 case round =>
  obtain ⟨k,hk,rfl,hown,hbel⟩:=hrel
  have HB1:=hD hbel
  have hle:=hbel.size
  have hwl:=B1.out.size
  clear hbel
  by_cases hlt:k<ds.length
  ·obtain ⟨b,off,ao,cap,rfl,q1,q2,_,hc,hrg⟩:=(HD.out).get k hlt
   have j1:(k:Int)<ds.length:=by omega
   have hbw:Below w.heap.size w wr:=B1.out.trans (HB1.out.mono hwl)
   rw [<- hbw.cell (p:=⟨b,off+k,none⟩) q2] at hc
   have CN1:=hD (CN.out ds[k] (List.getElem_mem hlt) _ wr (hrg.below hbw))
   have hst:=hD (HST.out k hlt)
   have hnl:=HNL.out k hk
   clear hrg hbw
   generalize ds[k]=d at *
   go_wp2_with (go_at_call 54;(with_reducible refine CN1.out.mono ?_);rintro e W3 ⟨a3,c3,rfl,r3,b3⟩;have HO:=hD (hown.below b3);have B3:=hD (HB1.out.trans (b3.mono hle));have R3:=hD r3;obtain ⟨u3,z2,z3⟩:=HO.out.cellAt k (Nat.lt_of_lt_of_eq hlt hnl.symm);clear b3 r3)
   refine ⟨⟨k+1,by omega,by go_num,?_,B3.out.setCell (p:=⟨BO,k,none⟩) (Nat.le_of_eq HSZ.out) _⟩,by simp [intOf];omega⟩
   rw [hst.out]
   have:=HO.out
   rw [<- hnl] at this |-
   exact DsOwn.set this k (by omega) R3.out
  ·obtain rfl:k=ds.length:=by omega
   rw [HTA.out] at hown
   clear CN HST HNL HTA hlt hk CO
   obtain ⟨W2,hW2⟩:∃ W2:World,W2=wr:=⟨_,rfl⟩
   subst hW2
   have BW2:=hD (B1.out.trans (HB1.out.mono hwl))
   have HWA:Hid (DsAt W2 (.slice (some ⟨BO,0,none⟩) ds.length ds.length) was):=by
    have:=hown.at;exact this
   have hbo:BO<W2.heap.size:=by
    have h1:=HSZ.out
    have h2:=HB1.out.size
    rcases Nat.lt_or_ge BO W2.heap.size with h | h
    ·exact h
    ·exfalso
     obtain ⟨us,_,ow,_⟩:=hown
     have:=(ow.lt BO rfl).2
     omega
   have OM:=hD (outAt_made W2 ds.length hdl 61 22 rfl)
   have hwl2:=HWL.out
   clear hown hle hwl HB1
   go_wp2
   go_loopw [38] (fun s wr=>∃ k:Nat,k<=ds.length/\s=.int .i64 k/\Hid (OutAt wr W2.heap.size (W2.heap.size+1) W2.heap.size (normTo was k))/\Hid (Below W2.heap.size W2 wr)) (fun s _=>ds.length - (intOf s).toNat)
   case atStart=>exact ⟨0,by omega,rfl,by rw [H02.out,HWL.out];exact OM,hD ((bA _).alloc (by simp) _)⟩
   case round =>
    clear OM
    obtain ⟨k,hk,rfl,HOq,HBq⟩:=hrel
    by_cases hlt:k<ds.length
    ·have hkw:k<was.length:=by omega
     obtain ⟨b,off,ao,cap,he,q1,q2,hnq,hc,hrg⟩:=HWA.out.get k hkw
     clear hnq
     simp only [Option.some.injEq,Addr.mk.injEq,and_true] at he
     obtain ⟨rfl,rfl⟩:=he
     rw [Nat.zero_add] at hc
     have j1:(k:Int)<ds.length:=by omega
     have hwm:=HW2.out was[k] (List.getElem_mem hkw)
     have hnn:=HNN.out was[k] (List.getElem_mem hkw)
     have CC:Hid (∀ W,Below W2.heap.size W2 W->Calls Tryz.prog 90 #[.slice ao was[k].length cap] W (RetN was[k] W)):=fun W h=>clone_n _ was[k] W (hrg.below h) (by omega)
     have hst:=HST2.out k hkw
     rw [hnn] at hst
     have HSTk:=hD hst
     have hnl:=HNL2.out k (by omega)
     have hsh:=normTo_short was k
     clear hrg hnn hst
     generalize was[k]=d at *
     obtain ⟨u5,v5,_,_,_,hgl,hco,hfo,hrr⟩:=HOq.out.own.get' k (by omega)
     clear hrr
     have hb0:=HOq.out.box.c0
     rw [hnl,hwl2] at hb0
     have HR:Hid (∀ W,Below wr.heap.size wr W->W.cell? ⟨W2.heap.size+1,0,none⟩=some (.slice (some ⟨W2.heap.size,0,none⟩) ds.length ds.length)/\W.cell? ⟨BO,k,none⟩=some (.slice ao d.length cap)/\W.cell? ⟨W2.heap.size,k,none⟩=some (.slice u5 (normTo was k)[k].length v5)/\W.frozen? ⟨W2.heap.size,k,none⟩=false):=fun W h =>
      ⟨(h.cell (p:=⟨W2.heap.size+1,0,none⟩) HOq.out.box.lt).trans hb0,((bT HBq.out h).cell (p:=⟨BO,k,none⟩) hbo).trans hc,(h.cell (p:=⟨W2.heap.size,k,none⟩) hgl).trans hco,(h.frozen (p:=⟨W2.heap.size,k,none⟩) hgl).trans hfo⟩
     clear hc hb0 hco hfo
     generalize (normTo was k)[k].length=ol at *
     have HSH:=hD hsh
     have HNLk:=hD hnl
     have HWL2:=hD hwl2
     clear hsh hnl hwl2
     obtain ⟨y0,y1,y2,y3⟩:=HR.out wr (Below.refl _ _)
     go_wp2
     go_region_with ((go_at_call 90;(with_reducible refine (CC.out _ ?_).mono ?_);(·exact HBq.out.drew);rintro e W6 ⟨a6,c6,rfl,r6,b6,n6⟩;have N6:=hD n6;clear n6;have bw6:Below wr.heap.size wr W6:=Below.trans ((Below.refl _ wr).drew) b6;obtain ⟨y4,y5,y6,y7⟩:=HR.out W6 bw6;have R6:=hD r6;have B6:=hD bw6;clear b6 r6 bw6))
     all_goals
      go_wp2
      refine ⟨⟨k+1,by omega,by go_num,?_,hD ((bT HBq.out B6.out).setCell (p:=⟨W2.heap.size,k,none⟩) (rN _) _)⟩,by simp [intOf];omega⟩
      have ho6:=HOq.out.below B6.out
      have hnl:=HNLk.out
      have hwl2:=HWL2.out
      rw [HSTk.out]
      refine ⟨?_,?_,ho6.ne,ho6.low,ho6.gl,?_,?_⟩
      ·rw [List.length_set];exact DsOwn.set ho6.own k (by omega) R6.out
      ·rw [List.length_set];exact ho6.box.far (a:=⟨W2.heap.size,k,none⟩) (by dsimp only;omega) _
      ·intro x hx
       rcases List.mem_or_eq_of_mem_set hx with hx | rfl
       ·exact HSH.out x hx
       ·omega
      ·intro j hj u hu b e
       by_cases hjn:j=k
       ·subst hjn
        rw [World.cell?_setCell_same _ _ _ y6] at hu
        injection hu with hu
        subst hu
        exact Nat.le_trans HBq.out.size (N6.out b e)
       ·rw [World.cell?_setCell_other _ _ _ _ (fun he=>hjn (by injection he with _ h2 _;exact h2.symm))] at hu
        rw [List.length_set] at hj
        exact ho6.new j hj u hu b e
    ·obtain rfl:k=ds.length:=by omega
     rw [<- hwl2,HA2.out] at HOq
     clear HST2 HNL2 H02 HA2 HW2 HNN hlt hk hmk
     have BWq:=hD (bT BW2.out HBq.out)
     cases ANY:anyNil [(nx:Int),ny,nz] was with
     | true =>
      have HRES:=hD (EN.out ANY)
      clear EN ENo EG ES CNR
      go_wp2_with (first
       | (go_at_call 183;(with_reducible refine (CV.out _ BWq.out).mono ?_);rintro e W5 ⟨a5,c5,rfl,i5,b5⟩;have B5:Hid (Below W2.heap.size W2 W5):=bT HBq.out b5;have O5:=hD (HOq.out.below b5);have I5:=hD i5;have CE5:=hD (containsEmp_any W2.heap.size (W2.heap.size+1) W2.heap.size was _ [(nx:Int),ny,nz] W5 O5.out I5.out HAL.out HVV.out);rw [empty_any,ANY] at CE5;clear b5 i5)
       | (go_at_call 41;(with_reducible refine CE5.out.mono ?_);rintro e w' ⟨rfl,rfl⟩))
      go_ret2
      exact ⟨bT BW2.out B5.out,.inr ⟨HRES.out,rfl⟩⟩
     | false =>
      have EN1:=hD (ENo.out ANY)
      have EG1:=hD (fun ks=>EG.out ks ANY)
      have ES1:=hD (fun ks=>ES.out ks ANY)
      clear EN ENo EG ES
      have CN5:Hid (∀ W5,Below W2.heap.size W2 W5->OutAt W5 W2.heap.size (W2.heap.size+1) W2.heap.size was->Calls Tryz.prog 182 #[.agg #[.int .i64 nx,.int .i64 ny,.int .i64 nz],.slice (some ⟨BO,0,none⟩) ds.length ds.length,.func (.func 92) #[] #[.pointer (some ⟨W2.heap.size+1,0,none⟩)]] W5 (NarR NK W2.heap.size (W2.heap.size+1) W2.heap.size was W5)):=fun W5 hb ho=>CNR.out W2 W5 _ _ _ BW2.out HWA.out hb ho
      cases NK with
      | none =>
       have HRES:=hD (EN1.out rfl)
       have CN6:Hid (∀ W5,Below W2.heap.size W2 W5->OutAt W5 W2.heap.size (W2.heap.size+1) W2.heap.size was->Calls Tryz.prog 182 #[.agg #[.int .i64 nx,.int .i64 ny,.int .i64 nz],.slice (some ⟨BO,0,none⟩) ds.length ds.length,.func (.func 92) #[] #[.pointer (some ⟨W2.heap.size+1,0,none⟩)]] W5 fun e W'=>e=.returned (.bool false)/\Below W2.heap.size W5 W'):=fun W5 hb ho =>
        (CN5.out W5 hb ho).mono fun e W' h=>by
         obtain ⟨hb1,_,⟨ks,hk,_⟩ | ⟨_,he⟩⟩:=h
         ·cases hk
         ·exact ⟨he,hb1⟩
       clear CN5 CNR EN1 EG1 ES1
       go_wp2_with (first
        | (go_at_call 183;(with_reducible refine (CV.out _ BWq.out).mono ?_);rintro e W5 ⟨a5,c5,rfl,i5,b5⟩;have B5:Hid (Below W2.heap.size W2 W5):=bT HBq.out b5;have O5:=hD (HOq.out.below b5);have I5:=hD i5;have CE5:=hD (containsEmp_any W2.heap.size (W2.heap.size+1) W2.heap.size was _ [(nx:Int),ny,nz] W5 O5.out I5.out HAL.out HVV.out);rw [empty_any,ANY] at CE5;clear b5 i5)
        | (go_at_call 41;(with_reducible refine CE5.out.mono ?_);rintro e w' ⟨rfl,rfl⟩)
        | (go_at_call 182;(with_reducible refine (CN6.out _ B5.out O5.out).mono ?_);rintro e W7 ⟨rfl,b7⟩))
       go_ret2
       exact ⟨BW2.out.trans ((B5.out.trans b7).mono BW2.out.size),.inr ⟨HRES.out,rfl⟩⟩
      | some ks =>
       have CN6:Hid (∀ W5,Below W2.heap.size W2 W5->OutAt W5 W2.heap.size (W2.heap.size+1) W2.heap.size was->Calls Tryz.prog 182 #[.agg #[.int .i64 nx,.int .i64 ny,.int .i64 nz],.slice (some ⟨BO,0,none⟩) ds.length ds.length,.func (.func 92) #[] #[.pointer (some ⟨W2.heap.size+1,0,none⟩)]] W5 fun e W'=>e=.returned (.bool true)/\Below W2.heap.size W5 W'/\Stay W5 W' W2.heap.size/\OutAt W' W2.heap.size (W2.heap.size+1) W2.heap.size (keepsL ks was)):=fun W5 hb ho =>
        (CN5.out W5 hb ho).mono fun e W' h=>by
         obtain ⟨hb1,hs1,⟨ks',hk,he,ho'⟩ | ⟨hk,_⟩⟩:=h
         ·injection hk with hk;subst hk;exact ⟨he,hb1,hs1,ho'⟩
         ·cases hk
       have EG2:=hD (EG1.out ks rfl)
       have ES2:=hD (ES1.out ks rfl)
       have HKL:Hid ((keepsL ks was).length=was.length):=keepsL_len ks was
       clear CN5 CNR EN1 EG1 ES1
       generalize keepsL ks was=fin at *
       have HV2:Hid (∀ v∈[(nx:Int),ny,nz],0<=v/\v.toNat<fin.length):=fun v hv=>by rw [HKL.out];exact HVV.out v hv
       cases ANY2:anyNil [(nx:Int),ny,nz] fin with
       | true =>
        have HRES:=hD (EG2.out ANY2)
        clear EG2 ES2
        go_wp2_with (first
         | (go_at_call 183;(with_reducible refine (CV.out _ BWq.out).mono ?_);rintro e W5 ⟨a5,c5,rfl,i5,b5⟩;have B5:Hid (Below W2.heap.size W2 W5):=bT HBq.out b5;have O5:=hD (HOq.out.below b5);have I5:=hD i5;have CE5:=hD (containsEmp_any W2.heap.size (W2.heap.size+1) W2.heap.size was _ [(nx:Int),ny,nz] W5 O5.out I5.out HAL.out HVV.out);rw [empty_any,ANY] at CE5;clear b5 i5)
         | (go_at_call 41;(with_reducible refine CE5.out.mono ?_);rintro e w' ⟨rfl,rfl⟩)
         | (go_at_call 182;(with_reducible refine (CN6.out _ B5.out O5.out).mono ?_);rintro e W7 ⟨rfl,b7,s7,o7⟩;have CE7:=hD (containsEmp_any W2.heap.size (W2.heap.size+1) W2.heap.size fin _ [(nx:Int),ny,nz] W7 o7 (I5.out.stayO O5.out s7) HAL.out HV2.out);rw [empty_any,ANY2] at CE7;clear CE5)
         | (go_at_call 41;(with_reducible refine CE7.out.mono ?_);rintro e w' ⟨rfl,rfl⟩))
        go_ret2
        exact ⟨BW2.out.trans ((B5.out.trans b7).mono BW2.out.size),.inr ⟨HRES.out,rfl⟩⟩
       | false =>
        have HRES:=hD (ES2.out ANY2)
        clear EG2 ES2
        go_wp2_with (first
         | (go_at_call 183;(with_reducible refine (CV.out _ BWq.out).mono ?_);rintro e W5 ⟨a5,c5,rfl,i5,b5⟩;have B5:Hid (Below W2.heap.size W2 W5):=bT HBq.out b5;have O5:=hD (HOq.out.below b5);have I5:=hD i5;have CE5:=hD (containsEmp_any W2.heap.size (W2.heap.size+1) W2.heap.size was _ [(nx:Int),ny,nz] W5 O5.out I5.out HAL.out HVV.out);rw [empty_any,ANY] at CE5;clear b5 i5)
         | (go_at_call 41;(with_reducible refine CE5.out.mono ?_);rintro e w' ⟨rfl,rfl⟩)
         | (go_at_call 182;(with_reducible refine (CN6.out _ B5.out O5.out).mono ?_);rintro e W7 ⟨rfl,b7,s7,o7⟩;have CE7:=hD (containsEmp_any W2.heap.size (W2.heap.size+1) W2.heap.size fin _ [(nx:Int),ny,nz] W7 o7 (I5.out.stayO O5.out s7) HAL.out HV2.out);rw [empty_any,ANY2] at CE7;have hbx7:=o7.box.c0;clear CE5)
         | (go_at_call 41;(with_reducible refine CE7.out.mono ?_);rintro e w' ⟨rfl,rfl⟩))
        go_ret2
        exact ⟨BW2.out.trans ((B5.out.trans b7).mono BW2.out.size),.inl ⟨fin,W2.heap.size,W2.heap.size+1,W2.heap.size,HRES.out,rfl,BW2.out.size,o7⟩⟩
theorem once3_c (va vb vv vds:Value) (rel c x y z:Int) (coef vars vs:List Int) (ds:Ds) (w:World) (h0:IsAt w va coef) (h1:IsAt w vb vars) (h2:IsAt w vv vs) (hd:DsAt w vds ds)
  (hf:(PL.mk 3 rel c x y z coef vars vs).Fine ds) (hdl:ds.length<=4096) (hdm:∀ d∈ds,d.length<=4096) :
  Calls Tryz.prog 66 #[propV 3 va vb rel c x y z vv,vds] w (RetOW (onceP (PL.mk 3 rel c x y z coef vars vs) ds) w):=by
 obtain ⟨a0,c0,rfl,_⟩:=IsAt.shape h0
 obtain ⟨a1,c1,rfl,_⟩:=IsAt.shape h1
 obtain ⟨a2,c2,rfl,_⟩:=IsAt.shape h2
 obtain ⟨ad,cd,rfl,_⟩:=hd.shape
 have hall:(PL.mk 3 rel c x y z coef vars vs).all=vs:=rfl
 have HZ:Hid (Below w.heap.size w (w.alloc (.cells #[.int .i64 3,.slice a0 coef.length c0,.slice a1 vars.length c1,.int .i64 rel,.int .i64 c,.int .i64 x,.int .i64 y,.int .i64 z,.slice a2 vs.length c2] 67))):=bA _
 have CO:Hid (Calls Tryz.prog 84 #[.agg #[.int .i64 3,.slice a0 coef.length c0,.slice a1 vars.length c1,.int .i64 rel,.int .i64 c,.int .i64 x,.int .i64 y,.int .i64 z,.slice a2 vs.length c2]] (w.alloc (.cells #[.int .i64 3,.slice a0 coef.length c0,.slice a1 vars.length c1,.int .i64 rel,.int .i64 c,.int .i64 x,.int .i64 y,.int .i64 z,.slice a2 vs.length c2] 67)) fun e w'=>e=.returned (.iface 128 (.agg #[.slice a2 vs.length c2]))/\Below (w.alloc (.cells #[.int .i64 3,.slice a0 coef.length c0,.slice a1 vars.length c1,.int .i64 rel,.int .i64 c,.int .i64 x,.int .i64 y,.int .i64 z,.slice a2 vs.length c2] 67)).heap.size (w.alloc (.cells #[.int .i64 3,.slice a0 coef.length c0,.slice a1 vars.length c1,.int .i64 rel,.int .i64 c,.int .i64 x,.int .i64 y,.int .i64 z,.slice a2 vs.length c2] 67)) w'):=of_c 3 a0 a1 a2 coef.length vars.length vs.length c0 c1 c2 rel c x y z _
 have CV:Hid (∀ W,Below w.heap.size w W->Calls Tryz.prog 180 #[.agg #[.slice a2 vs.length c2]] W fun e w'=>∃ ao cap,e=.returned (.slice ao vs.length cap)/\IsAt w' (.slice ao vs.length cap) vs/\Below W.heap.size W w'):=fun W h=>(varsDiff_c a2 vs.length c2 W).mono fun e w' ⟨he,hb⟩=>⟨a2,c2,he,h2.below (bT h hb),hb⟩
 have CNR:Hid (∀ W2 W5 vw bo g,Below w.heap.size w W2->DsAt W2 vw (ds.map norm)->Below W2.heap.size W2 W5->OutAt W5 W2.heap.size bo g (ds.map norm)->Calls Tryz.prog 179 #[.agg #[.slice a2 vs.length c2],vw,.func (.func 92) #[] #[.pointer (some ⟨bo,0,none⟩)]] W5 (NarR (narrowKs (PL.mk 3 rel c x y z coef vars vs) (ds.map norm)) W2.heap.size bo g (ds.map norm) W5)):=fun W2 W5 vw bo g hW2 hvw hb5 ho =>
  narDiff_c _ _ vs (ds.map norm) (ds.map norm) W2 W5 W2.heap.size bo g rfl hb5 (h2.below hW2) hvw (fun v hv=>by have:=hf.vars v (by rw [hall];exact hv);simp;omega) (by have:=hf.vsl rfl;dsimp only at this;omega) (by simpa using hdl) (fun d hd=>Nat.le_trans (len201 d hd) (by decide)) ho rfl
 have CN:Hid (∀ d,d∈ds->∀ vd W,RgAt W vd d->Calls Tryz.prog 54 #[vd] W (RetR (norm d) W)):=fun d hm vd W hr=>norm_c vd d W hr (hdm d hm)
 have HD:=hD hd
 have HST:=hD (normTo_step ds)
 have HNL:=hD (normTo_len ds)
 have HST2:=hD (normTo_step (ds.map norm))
 have HNL2:=hD (normTo_len (ds.map norm))
 have H02:=hD (normTo_zero (ds.map norm))
 have HA2:Hid (normTo (ds.map norm) (ds.map norm).length=ds.map norm):=(normTo_all _).trans (norm_norm_map ds)
 have HWL:Hid ((ds.map norm).length=ds.length):=by show _=_;simp
 have HW2:Hid (∀ d∈ds.map norm,d.length<=201):=len201
 have HNN:Hid (∀ d∈ds.map norm,norm d=d):=fun d hd=>by obtain ⟨e,_,rfl⟩:=List.mem_map.1 hd;exact norm_norm e
 have HAL:Hid (vs.length<=4097):=by
  show _<=_
  have:=hf.vsl rfl;dsimp only at this;omega
 have HVV:Hid (∀ v∈vs,0<=v/\v.toNat<(ds.map norm).length):=fun v hv=>by have:=hf.vars v hv;simpa using this
 have hmk:=mk_rows ds.length hdl
 have EN:Hid (anyNil vs (ds.map norm)=true->onceP (PL.mk 3 rel c x y z coef vars vs) ds=none):=fun h=>onceP_nil (p:=(PL.mk 3 rel c x y z coef vars vs)) h
 have ENo:Hid (anyNil vs (ds.map norm)=false->narrowKs (PL.mk 3 rel c x y z coef vars vs) (ds.map norm)=none->onceP (PL.mk 3 rel c x y z coef vars vs) ds=none):=fun h hk=>onceP_no (p:=(PL.mk 3 rel c x y z coef vars vs)) h hk
 have EG:Hid (∀ ks,anyNil vs (ds.map norm)=false->narrowKs (PL.mk 3 rel c x y z coef vars vs) (ds.map norm)=some ks->anyNil vs (keepsL ks (ds.map norm))=true->onceP (PL.mk 3 rel c x y z coef vars vs) ds=none):=fun ks h hk he=>onceP_gone (p:=(PL.mk 3 rel c x y z coef vars vs)) h hk he
 have ES:Hid (∀ ks,anyNil vs (ds.map norm)=false->narrowKs (PL.mk 3 rel c x y z coef vars vs) (ds.map norm)=some ks->anyNil vs (keepsL ks (ds.map norm))=false->onceP (PL.mk 3 rel c x y z coef vars vs) ds=some (keepsL ks (ds.map norm))):=fun ks h hk he=>onceP_some (p:=(PL.mk 3 rel c x y z coef vars vs)) h hk he
 clear h0 h1 h2 hd hf hdm hall
 generalize onceP (PL.mk 3 rel c x y z coef vars vs) ds=RES at *
 generalize narrowKs (PL.mk 3 rel c x y z coef vars vs) (ds.map norm)=NK at *
 obtain ⟨was,hwas⟩:∃ was,was=ds.map norm:=⟨_,rfl⟩
 have HTA:=hD (normTo_all ds)
 rw [<- hwas] at CNR HST2 HNL2 H02 HA2 HWL HW2 HNN HVV EN ENo EG ES HTA
 have HWS:=hD hwas
 clear hwas
 unfold propV
 go_enter Tryz.func66,Tryz.ntmps66
 go_wp2_with (go_at_call 84;(with_reducible refine CO.out.mono ?_);rintro e W1 ⟨rfl,bb⟩;have B1:=hD (bT HZ.out bb);clear bb)
 obtain ⟨BO,hBO⟩:∃ BO,BO=W1.heap.size:=⟨_,rfl⟩
 rw [<- hBO]
 have HSZ:=hD hBO.symm
 clear hBO
 go_loopw [22] (fun s wr=>∃ k:Nat,k<=ds.length/\s=.int .i64 k/\DsOwn wr BO (.slice (some ⟨BO,0,none⟩) ds.length ds.length) (normTo ds k)/\Below W1.heap.size W1 wr) (fun s _=>ds.length - (intOf s).toNat)
 case atStart=>exact ⟨0,by omega,rfl,by rw [normTo_zero];have h:=DsOwn.made W1 ds.length (by unfold maxLen;omega) _ rfl;rw [HSZ.out] at h;exact h,bA _⟩
 case round =>
  obtain ⟨k,hk,rfl,hown,hbel⟩:=hrel
  have HB1:=hD hbel
  have hle:=hbel.size
  have hwl:=B1.out.size
  clear hbel
  by_cases hlt:k<ds.length
  ·obtain ⟨b,off,ao,cap,rfl,q1,q2,_,hc,hrg⟩:=(HD.out).get k hlt
   have j1:(k:Int)<ds.length:=by omega
   have hbw:Below w.heap.size w wr:=B1.out.trans (HB1.out.mono hwl)
   rw [<- hbw.cell (p:=⟨b,off+k,none⟩) q2] at hc
   have CN1:=hD (CN.out ds[k] (List.getElem_mem hlt) _ wr (hrg.below hbw))
   have hst:=hD (HST.out k hlt)
   have hnl:=HNL.out k hk
   clear hrg hbw
   generalize ds[k]=d at *
   go_wp2_with (go_at_call 54;(with_reducible refine CN1.out.mono ?_);rintro e W3 ⟨a3,c3,rfl,r3,b3⟩;have HO:=hD (hown.below b3);have B3:=hD (HB1.out.trans (b3.mono hle));have R3:=hD r3;obtain ⟨u3,z2,z3⟩:=HO.out.cellAt k (Nat.lt_of_lt_of_eq hlt hnl.symm);clear b3 r3)
   refine ⟨⟨k+1,by omega,by go_num,?_,B3.out.setCell (p:=⟨BO,k,none⟩) (Nat.le_of_eq HSZ.out) _⟩,by simp [intOf];omega⟩
   rw [hst.out]
   have:=HO.out
   rw [<- hnl] at this |-
   exact DsOwn.set this k (by omega) R3.out
  ·obtain rfl:k=ds.length:=by omega
   rw [HTA.out] at hown
   clear CN HST HNL HTA hlt hk CO
   obtain ⟨W2,hW2⟩:∃ W2:World,W2=wr:=⟨_,rfl⟩
   subst hW2
   have BW2:=hD (B1.out.trans (HB1.out.mono hwl))
   have HWA:Hid (DsAt W2 (.slice (some ⟨BO,0,none⟩) ds.length ds.length) was):=by
    have:=hown.at;exact this
   have hbo:BO<W2.heap.size:=by
    have h1:=HSZ.out
    have h2:=HB1.out.size
    rcases Nat.lt_or_ge BO W2.heap.size with h | h
    ·exact h
    ·exfalso
     obtain ⟨us,_,ow,_⟩:=hown
     have:=(ow.lt BO rfl).2
     omega
   have OM:=hD (outAt_made W2 ds.length hdl 61 22 rfl)
   have hwl2:=HWL.out
   clear hown hle hwl HB1
   go_wp2
   go_loopw [38] (fun s wr=>∃ k:Nat,k<=ds.length/\s=.int .i64 k/\Hid (OutAt wr W2.heap.size (W2.heap.size+1) W2.heap.size (normTo was k))/\Hid (Below W2.heap.size W2 wr)) (fun s _=>ds.length - (intOf s).toNat)
   case atStart=>exact ⟨0,by omega,rfl,by rw [H02.out,HWL.out];exact OM,hD ((bA _).alloc (by simp) _)⟩
   case round =>
    clear OM
    obtain ⟨k,hk,rfl,HOq,HBq⟩:=hrel
    by_cases hlt:k<ds.length
    ·have hkw:k<was.length:=by omega
     obtain ⟨b,off,ao,cap,he,q1,q2,hnq,hc,hrg⟩:=HWA.out.get k hkw
     clear hnq
     simp only [Option.some.injEq,Addr.mk.injEq,and_true] at he
     obtain ⟨rfl,rfl⟩:=he
     rw [Nat.zero_add] at hc
     have j1:(k:Int)<ds.length:=by omega
     have hwm:=HW2.out was[k] (List.getElem_mem hkw)
     have hnn:=HNN.out was[k] (List.getElem_mem hkw)
     have CC:Hid (∀ W,Below W2.heap.size W2 W->Calls Tryz.prog 90 #[.slice ao was[k].length cap] W (RetN was[k] W)):=fun W h=>clone_n _ was[k] W (hrg.below h) (by omega)
     have hst:=HST2.out k hkw
     rw [hnn] at hst
     have HSTk:=hD hst
     have hnl:=HNL2.out k (by omega)
     have hsh:=normTo_short was k
     clear hrg hnn hst
     generalize was[k]=d at *
     obtain ⟨u5,v5,_,_,_,hgl,hco,hfo,hrr⟩:=HOq.out.own.get' k (by omega)
     clear hrr
     have hb0:=HOq.out.box.c0
     rw [hnl,hwl2] at hb0
     have HR:Hid (∀ W,Below wr.heap.size wr W->W.cell? ⟨W2.heap.size+1,0,none⟩=some (.slice (some ⟨W2.heap.size,0,none⟩) ds.length ds.length)/\W.cell? ⟨BO,k,none⟩=some (.slice ao d.length cap)/\W.cell? ⟨W2.heap.size,k,none⟩=some (.slice u5 (normTo was k)[k].length v5)/\W.frozen? ⟨W2.heap.size,k,none⟩=false):=fun W h =>
      ⟨(h.cell (p:=⟨W2.heap.size+1,0,none⟩) HOq.out.box.lt).trans hb0,((bT HBq.out h).cell (p:=⟨BO,k,none⟩) hbo).trans hc,(h.cell (p:=⟨W2.heap.size,k,none⟩) hgl).trans hco,(h.frozen (p:=⟨W2.heap.size,k,none⟩) hgl).trans hfo⟩
     clear hc hb0 hco hfo
     generalize (normTo was k)[k].length=ol at *
     have HSH:=hD hsh
     have HNLk:=hD hnl
     have HWL2:=hD hwl2
     clear hsh hnl hwl2
     obtain ⟨y0,y1,y2,y3⟩:=HR.out wr (Below.refl _ _)
     go_wp2
     go_region_with ((go_at_call 90;(with_reducible refine (CC.out _ ?_).mono ?_);(·exact HBq.out.drew);rintro e W6 ⟨a6,c6,rfl,r6,b6,n6⟩;have N6:=hD n6;clear n6;have bw6:Below wr.heap.size wr W6:=Below.trans ((Below.refl _ wr).drew) b6;obtain ⟨y4,y5,y6,y7⟩:=HR.out W6 bw6;have R6:=hD r6;have B6:=hD bw6;clear b6 r6 bw6))
     all_goals
      go_wp2
      refine ⟨⟨k+1,by omega,by go_num,?_,hD ((bT HBq.out B6.out).setCell (p:=⟨W2.heap.size,k,none⟩) (rN _) _)⟩,by simp [intOf];omega⟩
      have ho6:=HOq.out.below B6.out
      have hnl:=HNLk.out
      have hwl2:=HWL2.out
      rw [HSTk.out]
      refine ⟨?_,?_,ho6.ne,ho6.low,ho6.gl,?_,?_⟩
      ·rw [List.length_set];exact DsOwn.set ho6.own k (by omega) R6.out
      ·rw [List.length_set];exact ho6.box.far (a:=⟨W2.heap.size,k,none⟩) (by dsimp only;omega) _
      ·intro x hx
       rcases List.mem_or_eq_of_mem_set hx with hx | rfl
       ·exact HSH.out x hx
       ·omega
      ·intro j hj u hu b e
       by_cases hjn:j=k
       ·subst hjn
        rw [World.cell?_setCell_same _ _ _ y6] at hu
        injection hu with hu
        subst hu
        exact Nat.le_trans HBq.out.size (N6.out b e)
       ·rw [World.cell?_setCell_other _ _ _ _ (fun he=>hjn (by injection he with _ h2 _;exact h2.symm))] at hu
        rw [List.length_set] at hj
        exact ho6.new j hj u hu b e
    ·obtain rfl:k=ds.length:=by omega
     rw [<- hwl2,HA2.out] at HOq
     clear HST2 HNL2 H02 HA2 HW2 HNN hlt hk hmk
     have BWq:=hD (bT BW2.out HBq.out)
     cases ANY:anyNil vs was with
     | true =>
      have HRES:=hD (EN.out ANY)
      clear EN ENo EG ES CNR
      go_wp2_with (first
       | (go_at_call 180;(with_reducible refine (CV.out _ BWq.out).mono ?_);rintro e W5 ⟨a5,c5,rfl,i5,b5⟩;have B5:Hid (Below W2.heap.size W2 W5):=bT HBq.out b5;have O5:=hD (HOq.out.below b5);have I5:=hD i5;have CE5:=hD (containsEmp_any W2.heap.size (W2.heap.size+1) W2.heap.size was _ vs W5 O5.out I5.out HAL.out HVV.out);rw [empty_any,ANY] at CE5;clear b5 i5)
       | (go_at_call 41;(with_reducible refine CE5.out.mono ?_);rintro e w' ⟨rfl,rfl⟩))
      go_ret2
      exact ⟨bT BW2.out B5.out,.inr ⟨HRES.out,rfl⟩⟩
     | false =>
      have EN1:=hD (ENo.out ANY)
      have EG1:=hD (fun ks=>EG.out ks ANY)
      have ES1:=hD (fun ks=>ES.out ks ANY)
      clear EN ENo EG ES
      have CN5:Hid (∀ W5,Below W2.heap.size W2 W5->OutAt W5 W2.heap.size (W2.heap.size+1) W2.heap.size was->Calls Tryz.prog 179 #[.agg #[.slice a2 vs.length c2],.slice (some ⟨BO,0,none⟩) ds.length ds.length,.func (.func 92) #[] #[.pointer (some ⟨W2.heap.size+1,0,none⟩)]] W5 (NarR NK W2.heap.size (W2.heap.size+1) W2.heap.size was W5)):=fun W5 hb ho=>CNR.out W2 W5 _ _ _ BW2.out HWA.out hb ho
      cases NK with
      | none =>
       have HRES:=hD (EN1.out rfl)
       have CN6:Hid (∀ W5,Below W2.heap.size W2 W5->OutAt W5 W2.heap.size (W2.heap.size+1) W2.heap.size was->Calls Tryz.prog 179 #[.agg #[.slice a2 vs.length c2],.slice (some ⟨BO,0,none⟩) ds.length ds.length,.func (.func 92) #[] #[.pointer (some ⟨W2.heap.size+1,0,none⟩)]] W5 fun e W'=>e=.returned (.bool false)/\Below W2.heap.size W5 W'):=fun W5 hb ho =>
        (CN5.out W5 hb ho).mono fun e W' h=>by
         obtain ⟨hb1,_,⟨ks,hk,_⟩ | ⟨_,he⟩⟩:=h
         ·cases hk
         ·exact ⟨he,hb1⟩
       clear CN5 CNR EN1 EG1 ES1
       go_wp2_with (first
        | (go_at_call 180;(with_reducible refine (CV.out _ BWq.out).mono ?_);rintro e W5 ⟨a5,c5,rfl,i5,b5⟩;have B5:Hid (Below W2.heap.size W2 W5):=bT HBq.out b5;have O5:=hD (HOq.out.below b5);have I5:=hD i5;have CE5:=hD (containsEmp_any W2.heap.size (W2.heap.size+1) W2.heap.size was _ vs W5 O5.out I5.out HAL.out HVV.out);rw [empty_any,ANY] at CE5;clear b5 i5)
        | (go_at_call 41;(with_reducible refine CE5.out.mono ?_);rintro e w' ⟨rfl,rfl⟩)
        | (go_at_call 179;(with_reducible refine (CN6.out _ B5.out O5.out).mono ?_);rintro e W7 ⟨rfl,b7⟩))
       go_ret2
       exact ⟨BW2.out.trans ((B5.out.trans b7).mono BW2.out.size),.inr ⟨HRES.out,rfl⟩⟩
      | some ks =>
       have CN6:Hid (∀ W5,Below W2.heap.size W2 W5->OutAt W5 W2.heap.size (W2.heap.size+1) W2.heap.size was->Calls Tryz.prog 179 #[.agg #[.slice a2 vs.length c2],.slice (some ⟨BO,0,none⟩) ds.length ds.length,.func (.func 92) #[] #[.pointer (some ⟨W2.heap.size+1,0,none⟩)]] W5 fun e W'=>e=.returned (.bool true)/\Below W2.heap.size W5 W'/\Stay W5 W' W2.heap.size/\OutAt W' W2.heap.size (W2.heap.size+1) W2.heap.size (keepsL ks was)):=fun W5 hb ho =>
        (CN5.out W5 hb ho).mono fun e W' h=>by
         obtain ⟨hb1,hs1,⟨ks',hk,he,ho'⟩ | ⟨hk,_⟩⟩:=h
         ·injection hk with hk;subst hk;exact ⟨he,hb1,hs1,ho'⟩
         ·cases hk
       have EG2:=hD (EG1.out ks rfl)
       have ES2:=hD (ES1.out ks rfl)
       have HKL:Hid ((keepsL ks was).length=was.length):=keepsL_len ks was
       clear CN5 CNR EN1 EG1 ES1
       generalize keepsL ks was=fin at *
       have HV2:Hid (∀ v∈vs,0<=v/\v.toNat<fin.length):=fun v hv=>by rw [HKL.out];exact HVV.out v hv
       cases ANY2:anyNil vs fin with
       | true =>
        have HRES:=hD (EG2.out ANY2)
        clear EG2 ES2
        go_wp2_with (first
         | (go_at_call 180;(with_reducible refine (CV.out _ BWq.out).mono ?_);rintro e W5 ⟨a5,c5,rfl,i5,b5⟩;have B5:Hid (Below W2.heap.size W2 W5):=bT HBq.out b5;have O5:=hD (HOq.out.below b5);have I5:=hD i5;have CE5:=hD (containsEmp_any W2.heap.size (W2.heap.size+1) W2.heap.size was _ vs W5 O5.out I5.out HAL.out HVV.out);rw [empty_any,ANY] at CE5;clear b5 i5)
         | (go_at_call 41;(with_reducible refine CE5.out.mono ?_);rintro e w' ⟨rfl,rfl⟩)
         | (go_at_call 179;(with_reducible refine (CN6.out _ B5.out O5.out).mono ?_);rintro e W7 ⟨rfl,b7,s7,o7⟩;have CE7:=hD (containsEmp_any W2.heap.size (W2.heap.size+1) W2.heap.size fin _ vs W7 o7 (I5.out.stayO O5.out s7) HAL.out HV2.out);rw [empty_any,ANY2] at CE7;clear CE5)
         | (go_at_call 41;(with_reducible refine CE7.out.mono ?_);rintro e w' ⟨rfl,rfl⟩))
        go_ret2
        exact ⟨BW2.out.trans ((B5.out.trans b7).mono BW2.out.size),.inr ⟨HRES.out,rfl⟩⟩
       | false =>
        have HRES:=hD (ES2.out ANY2)
        clear EG2 ES2
        go_wp2_with (first
         | (go_at_call 180;(with_reducible refine (CV.out _ BWq.out).mono ?_);rintro e W5 ⟨a5,c5,rfl,i5,b5⟩;have B5:Hid (Below W2.heap.size W2 W5):=bT HBq.out b5;have O5:=hD (HOq.out.below b5);have I5:=hD i5;have CE5:=hD (containsEmp_any W2.heap.size (W2.heap.size+1) W2.heap.size was _ vs W5 O5.out I5.out HAL.out HVV.out);rw [empty_any,ANY] at CE5;clear b5 i5)
         | (go_at_call 41;(with_reducible refine CE5.out.mono ?_);rintro e w' ⟨rfl,rfl⟩)
         | (go_at_call 179;(with_reducible refine (CN6.out _ B5.out O5.out).mono ?_);rintro e W7 ⟨rfl,b7,s7,o7⟩;have CE7:=hD (containsEmp_any W2.heap.size (W2.heap.size+1) W2.heap.size fin _ vs W7 o7 (I5.out.stayO O5.out s7) HAL.out HV2.out);rw [empty_any,ANY2] at CE7;have hbx7:=o7.box.c0;clear CE5)
         | (go_at_call 41;(with_reducible refine CE7.out.mono ?_);rintro e w' ⟨rfl,rfl⟩))
        go_ret2
        exact ⟨BW2.out.trans ((B5.out.trans b7).mono BW2.out.size),.inl ⟨fin,W2.heap.size,W2.heap.size+1,W2.heap.size,HRES.out,rfl,BW2.out.size,o7⟩⟩
end
end Go.Proofs.YtaekdgikgbdnnaaGreat
