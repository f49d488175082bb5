/-
  rel.Once of a constraint of kind 4 (reified), walked.
  rel.Once of any constraint that Check has let by.
  What stays while the queue is written: sets and lists in newer memory; append of one integer; the queue's start.
  THE STATE OF fix.Fix behind its start: the queue, its map, the uses; wait and next in it.
-/
import Derived.Test.YtaekdgikgbdnnaaGreatKref2
import Derived.Test.YtaekdgikgbdnnaaGreatKref3
import Derived.Test.YtaekdgikgbdnnaaGreatKrel3
import Derived.Test.YtaekdgikgbdnnaaGreatKonce5
import Derived.Test.YtaekdgikgbdnnaaGreatKonce2
import Derived.Test.YtaekdgikgbdnnaaGreatKlib1
import Derived.Deep.AppendLies
namespace Go.Proofs.YtaekdgikgbdnnaaGreat
section
open Go.RowKit
set_option maxRecDepth 100000
set_option maxHeartbeats 3200000
theorem once4_c (va vb vv vds:Value) (rel c:Int) (nx:Nat) (y z:Int) (coef vars vs:List Int) (ds:Ds) (w:World) (h0:IsAt w va coef) (h1:IsAt w vb vars) (h2:IsAt w vv vs) (hd:DsAt w vds ds)
  (hf:(PL.mk 4 rel c (nx:Int) y z coef vars vs).Fine ds) (hdl:ds.length<=4096) (hdm:∀ d∈ds,d.length<=4096) :
  Calls Tryz.prog 66 #[propV 4 va vb rel c (nx:Int) y z vv,vds] w (RetOW (onceP (PL.mk 4 rel c (nx:Int) y z coef vars vs) ds) w):=by
 obtain ⟨a0,c0,rfl,_⟩:=IsAt.shape h0
 obtain ⟨a1,c1,rfl,_⟩:=IsAt.shape h1
 obtain ⟨a2,c2,rfl,_⟩:=IsAt.shape h2
 obtain ⟨ad,cd,rfl,_⟩:=hd.shape
 have hall:(PL.mk 4 rel c (nx:Int) y z coef vars vs).all=((nx:Int)::vars):=rfl
 have HZ:Hid (Below w.heap.size w (w.alloc (.cells #[.int .i64 4,.slice a0 coef.length c0,.slice a1 vars.length c1,.int .i64 rel,.int .i64 c,.int .i64 nx,.int .i64 y,.int .i64 z,.slice a2 vs.length c2] 67))):=bA _
 have CO:Hid (Calls Tryz.prog 84 #[.agg #[.int .i64 4,.slice a0 coef.length c0,.slice a1 vars.length c1,.int .i64 rel,.int .i64 c,.int .i64 nx,.int .i64 y,.int .i64 z,.slice a2 vs.length c2]] (w.alloc (.cells #[.int .i64 4,.slice a0 coef.length c0,.slice a1 vars.length c1,.int .i64 rel,.int .i64 c,.int .i64 nx,.int .i64 y,.int .i64 z,.slice a2 vs.length c2] 67)) fun e w'=>e=.returned (.iface 126 (.agg #[.int .i64 nx,.slice a0 coef.length c0,.slice a1 vars.length c1,.int .i64 rel,.int .i64 c]))/\Below (w.alloc (.cells #[.int .i64 4,.slice a0 coef.length c0,.slice a1 vars.length c1,.int .i64 rel,.int .i64 c,.int .i64 nx,.int .i64 y,.int .i64 z,.slice a2 vs.length c2] 67)).heap.size (w.alloc (.cells #[.int .i64 4,.slice a0 coef.length c0,.slice a1 vars.length c1,.int .i64 rel,.int .i64 c,.int .i64 nx,.int .i64 y,.int .i64 z,.slice a2 vs.length c2] 67)) w'):=of_c 4 a0 a1 a2 coef.length vars.length vs.length c0 c1 c2 rel c (nx:Int) y z _
 have CV:Hid (∀ W,Below w.heap.size w W->Calls Tryz.prog 171 #[.agg #[.int .i64 nx,.slice a0 coef.length c0,.slice a1 vars.length c1,.int .i64 rel,.int .i64 c]] W fun e w'=>∃ ao cap,e=.returned (.slice ao (vars.length+1) cap)/\IsAt w' (.slice ao (vars.length+1) cap) ((nx:Int)::vars)/\Below W.heap.size W w'):=fun W h=>varsReif_c nx rel c a0 coef.length c0 _ vars W (h1.below h) (by have:=(hf.lin (.inr rfl)).1.len;have:=(hf.lin (.inr rfl)).1.le16;dsimp only at *;omega)
 have CNR:Hid (∀ W2 W5 vw bo g,Below w.heap.size w W2->DsAt W2 vw (ds.map norm)->Below W2.heap.size W2 W5->OutAt W5 W2.heap.size bo g (ds.map norm)->Calls Tryz.prog 170 #[.agg #[.int .i64 nx,.slice a0 coef.length c0,.slice a1 vars.length c1,.int .i64 rel,.int .i64 c],vw,.func (.func 92) #[] #[.pointer (some ⟨bo,0,none⟩)]] W5 (NarR (narrowKs (PL.mk 4 rel c (nx:Int) y z coef vars vs) (ds.map norm)) W2.heap.size bo g (ds.map norm) W5)):=fun W2 W5 vw bo g hW2 hvw hb5 ho =>
  narReif_c _ _ _ nx rel c coef vars (ds.map norm) (ds.map norm) W2 W5 W2.heap.size bo g rfl hb5 (h0.below hW2) (h1.below hW2) hvw (good_norm (hf.lin (.inr rfl)).1) (hf.lin (.inr rfl)).2.1 (hf.lin (.inr rfl)).2.2.1 (hf.lin (.inr rfl)).2.2.2.1 (by have:=(hf.vars nx (by rw [hall];simp)).2;simpa using this) (by simpa using hdl) (allN_norm ds) ho rfl
 have CN:Hid (∀ d,d∈ds->∀ vd W,RgAt W vd d->Calls Tryz.prog 54 #[vd] W (RetR (norm d) W)):=fun d hm vd W hr=>norm_c vd d W hr (hdm d hm)
 have HD:=hD hd
 have HST:=hD (normTo_step ds)
 have HNL:=hD (normTo_len ds)
 have HST2:=hD (normTo_step (ds.map norm))
 have HNL2:=hD (normTo_len (ds.map norm))
 have H02:=hD (normTo_zero (ds.map norm))
 have HA2:Hid (normTo (ds.map norm) (ds.map norm).length=ds.map norm):=(normTo_all _).trans (norm_norm_map ds)
 have HWL:Hid ((ds.map norm).length=ds.length):=by show _=_;simp
 have HW2:Hid (∀ d∈ds.map norm,d.length<=201):=len201
 have HNN:Hid (∀ d∈ds.map norm,norm d=d):=fun d hd=>by obtain ⟨e,_,rfl⟩:=List.mem_map.1 hd;exact norm_norm e
 have HAL:Hid (((nx:Int)::vars).length<=4097):=by
  show _<=_
  have:=(hf.lin (.inr rfl)).1.len;have:=(hf.lin (.inr rfl)).1.le16;dsimp only at *;simp;omega
 have HVV:Hid (∀ v∈((nx:Int)::vars),0<=v/\v.toNat<(ds.map norm).length):=fun v hv=>by have:=hf.vars v hv;simpa using this
 have hmk:=mk_rows ds.length hdl
 have EN:Hid (anyNil ((nx:Int)::vars) (ds.map norm)=true->onceP (PL.mk 4 rel c (nx:Int) y z coef vars vs) ds=none):=fun h=>onceP_nil (p:=(PL.mk 4 rel c (nx:Int) y z coef vars vs)) h
 have ENo:Hid (anyNil ((nx:Int)::vars) (ds.map norm)=false->narrowKs (PL.mk 4 rel c (nx:Int) y z coef vars vs) (ds.map norm)=none->onceP (PL.mk 4 rel c (nx:Int) y z coef vars vs) ds=none):=fun h hk=>onceP_no (p:=(PL.mk 4 rel c (nx:Int) y z coef vars vs)) h hk
 have EG:Hid (∀ ks,anyNil ((nx:Int)::vars) (ds.map norm)=false->narrowKs (PL.mk 4 rel c (nx:Int) y z coef vars vs) (ds.map norm)=some ks->anyNil ((nx:Int)::vars) (keepsL ks (ds.map norm))=true->onceP (PL.mk 4 rel c (nx:Int) y z coef vars vs) ds=none):=fun ks h hk he=>onceP_gone (p:=(PL.mk 4 rel c (nx:Int) y z coef vars vs)) h hk he
 have ES:Hid (∀ ks,anyNil ((nx:Int)::vars) (ds.map norm)=false->narrowKs (PL.mk 4 rel c (nx:Int) y z coef vars vs) (ds.map norm)=some ks->anyNil ((nx:Int)::vars) (keepsL ks (ds.map norm))=false->onceP (PL.mk 4 rel c (nx:Int) y z coef vars vs) ds=some (keepsL ks (ds.map norm))):=fun ks h hk he=>onceP_some (p:=(PL.mk 4 rel c (nx:Int) y z coef vars vs)) h hk he
 clear h0 h1 h2 hd hf hdm hall
 generalize onceP (PL.mk 4 rel c (nx:Int) y z coef vars vs) ds=RES at *
 generalize narrowKs (PL.mk 4 rel c (nx:Int) y z coef vars vs) (ds.map norm)=NK at *
 obtain ⟨was,hwas⟩:∃ was,was=ds.map norm:=⟨_,rfl⟩
 have HTA:=hD (normTo_all ds)
 rw [<- hwas] at CNR HST2 HNL2 H02 HA2 HWL HW2 HNN HVV EN ENo EG ES HTA
 have HWS:=hD hwas
 clear hwas
 unfold propV
 go_enter Tryz.func66,Tryz.ntmps66
 go_wp2_with (go_at_call 84;(with_reducible refine CO.out.mono ?_);rintro e W1 ⟨rfl,bb⟩;have B1:=hD (bT HZ.out bb);clear bb)
 obtain ⟨BO,hBO⟩:∃ BO,BO=W1.heap.size:=⟨_,rfl⟩
 rw [<- hBO]
 have HSZ:=hD hBO.symm
 clear hBO
 go_loopw [22] (fun s wr=>∃ k:Nat,k<=ds.length/\s=.int .i64 k/\DsOwn wr BO (.slice (some ⟨BO,0,none⟩) ds.length ds.length) (normTo ds k)/\Below W1.heap.size W1 wr) (fun s _=>ds.length - (intOf s).toNat)
 case atStart=>exact ⟨0,by omega,rfl,by rw [normTo_zero];have h:=DsOwn.made W1 ds.length (by unfold maxLen;omega) _ rfl;rw [HSZ.out] at h;exact h,bA _⟩
 case round =>
  obtain ⟨k,hk,rfl,hown,hbel⟩:=hrel
  have HB1:=hD hbel
  have hle:=hbel.size
  have hwl:=B1.out.size
  clear hbel
  by_cases hlt:k<ds.length
  ·obtain ⟨b,off,ao,cap,rfl,q1,q2,_,hc,hrg⟩:=(HD.out).get k hlt
   have j1:(k:Int)<ds.length:=by omega
   have hbw:Below w.heap.size w wr:=B1.out.trans (HB1.out.mono hwl)
   rw [<- hbw.cell (p:=⟨b,off+k,none⟩) q2] at hc
   have CN1:=hD (CN.out ds[k] (List.getElem_mem hlt) _ wr (hrg.below hbw))
   have hst:=hD (HST.out k hlt)
   have hnl:=HNL.out k hk
   clear hrg hbw
   generalize ds[k]=d at *
   go_wp2_with (go_at_call 54;(with_reducible refine CN1.out.mono ?_);rintro e W3 ⟨a3,c3,rfl,r3,b3⟩;have HO:=hD (hown.below b3);have B3:=hD (HB1.out.trans (b3.mono hle));have R3:=hD r3;obtain ⟨u3,z2,z3⟩:=HO.out.cellAt k (Nat.lt_of_lt_of_eq hlt hnl.symm);clear b3 r3)
   refine ⟨⟨k+1,by omega,by go_num,?_,B3.out.setCell (p:=⟨BO,k,none⟩) (Nat.le_of_eq HSZ.out) _⟩,by simp [intOf];omega⟩
   rw [hst.out]
   have:=HO.out
   rw [<- hnl] at this |-
   exact DsOwn.set this k (by omega) R3.out
  ·obtain rfl:k=ds.length:=by omega
   rw [HTA.out] at hown
   clear CN HST HNL HTA hlt hk CO
   obtain ⟨W2,hW2⟩:∃ W2:World,W2=wr:=⟨_,rfl⟩
   subst hW2
   have BW2:=hD (B1.out.trans (HB1.out.mono hwl))
   have HWA:Hid (DsAt W2 (.slice (some ⟨BO,0,none⟩) ds.length ds.length) was):=by
    have:=hown.at;exact this
   have hbo:BO<W2.heap.size:=by
    have h1:=HSZ.out
    have h2:=HB1.out.size
    rcases Nat.lt_or_ge BO W2.heap.size with h | h
    ·exact h
    ·exfalso
     obtain ⟨us,_,ow,_⟩:=hown
     have:=(ow.lt BO rfl).2
     omega
   have OM:=hD (outAt_made W2 ds.length hdl 61 22 rfl)
   have hwl2:=HWL.out
   clear hown hle hwl HB1
   go_wp2
   go_loopw [38] (fun s wr=>∃ k:Nat,k<=ds.length/\s=.int .i64 k/\Hid (OutAt wr W2.heap.size (W2.heap.size+1) W2.heap.size (normTo was k))/\Hid (Below W2.heap.size W2 wr)) (fun s _=>ds.length - (intOf s).toNat)
   case atStart=>exact ⟨0,by omega,rfl,by rw [H02.out,HWL.out];exact OM,hD ((bA _).alloc (by simp) _)⟩
   case round =>
    clear OM
    obtain ⟨k,hk,rfl,HOq,HBq⟩:=hrel
    by_cases hlt:k<ds.length
    ·have hkw:k<was.length:=by omega
     obtain ⟨b,off,ao,cap,he,q1,q2,hnq,hc,hrg⟩:=HWA.out.get k hkw
     clear hnq
     simp only [Option.some.injEq,Addr.mk.injEq,and_true] at he
     obtain ⟨rfl,rfl⟩:=he
     rw [Nat.zero_add] at hc
     have j1:(k:Int)<ds.length:=by omega
     have hwm:=HW2.out was[k] (List.getElem_mem hkw)
     have hnn:=HNN.out was[k] (List.getElem_mem hkw)
     have CC:Hid (∀ W,Below W2.heap.size W2 W->Calls Tryz.prog 90 #[.slice ao was[k].length cap] W (RetN was[k] W)):=fun W h=>clone_n _ was[k] W (hrg.below h) (by omega)
     have hst:=HST2.out k hkw
     rw [hnn] at hst
     have HSTk:=hD hst
     have hnl:=HNL2.out k (by omega)
     have hsh:=normTo_short was k
     clear hrg hnn hst
     generalize was[k]=d at *
     obtain ⟨u5,v5,_,_,_,hgl,hco,hfo,hrr⟩:=HOq.out.own.get' k (by omega)
     clear hrr
     have hb0:=HOq.out.box.c0
     rw [hnl,hwl2] at hb0
     have HR:Hid (∀ W,Below wr.heap.size wr W->W.cell? ⟨W2.heap.size+1,0,none⟩=some (.slice (some ⟨W2.heap.size,0,none⟩) ds.length ds.length)/\W.cell? ⟨BO,k,none⟩=some (.slice ao d.length cap)/\W.cell? ⟨W2.heap.size,k,none⟩=some (.slice u5 (normTo was k)[k].length v5)/\W.frozen? ⟨W2.heap.size,k,none⟩=false):=fun W h =>
      ⟨(h.cell (p:=⟨W2.heap.size+1,0,none⟩) HOq.out.box.lt).trans hb0,((bT HBq.out h).cell (p:=⟨BO,k,none⟩) hbo).trans hc,(h.cell (p:=⟨W2.heap.size,k,none⟩) hgl).trans hco,(h.frozen (p:=⟨W2.heap.size,k,none⟩) hgl).trans hfo⟩
     clear hc hb0 hco hfo
     generalize (normTo was k)[k].length=ol at *
     have HSH:=hD hsh
     have HNLk:=hD hnl
     have HWL2:=hD hwl2
     clear hsh hnl hwl2
     obtain ⟨y0,y1,y2,y3⟩:=HR.out wr (Below.refl _ _)
     go_wp2
     go_region_with ((go_at_call 90;(with_reducible refine (CC.out _ ?_).mono ?_);(·exact HBq.out.drew);rintro e W6 ⟨a6,c6,rfl,r6,b6,n6⟩;have N6:=hD n6;clear n6;have bw6:Below wr.heap.size wr W6:=Below.trans ((Below.refl _ wr).drew) b6;obtain ⟨y4,y5,y6,y7⟩:=HR.out W6 bw6;have R6:=hD r6;have B6:=hD bw6;clear b6 r6 bw6))
     all_goals
      go_wp2
      refine ⟨⟨k+1,by omega,by go_num,?_,hD ((bT HBq.out B6.out).setCell (p:=⟨W2.heap.size,k,none⟩) (rN _) _)⟩,by simp [intOf];omega⟩
      have ho6:=HOq.out.below B6.out
      have hnl:=HNLk.out
      have hwl2:=HWL2.out
      rw [HSTk.out]
      refine ⟨?_,?_,ho6.ne,ho6.low,ho6.gl,?_,?_⟩
      ·rw [List.length_set];exact DsOwn.set ho6.own k (by omega) R6.out
      ·rw [List.length_set];exact ho6.box.far (a:=⟨W2.heap.size,k,none⟩) (by dsimp only;omega) _
      ·intro x hx
       rcases List.mem_or_eq_of_mem_set hx with hx | rfl
       ·exact HSH.out x hx
       ·omega
      ·intro j hj u hu b e
       by_cases hjn:j=k
       ·subst hjn
        rw [World.cell?_setCell_same _ _ _ y6] at hu
        injection hu with hu
        subst hu
        exact Nat.le_trans HBq.out.size (N6.out b e)
       ·rw [World.cell?_setCell_other _ _ _ _ (fun he=>hjn (by injection he with _ h2 _;exact h2.symm))] at hu
        rw [List.length_set] at hj
        exact ho6.new j hj u hu b e
    ·obtain rfl:k=ds.length:=by omega
     rw [<- hwl2,HA2.out] at HOq
     clear HST2 HNL2 H02 HA2 HW2 HNN hlt hk hmk
     have BWq:=hD (bT BW2.out HBq.out)
     cases ANY:anyNil ((nx:Int)::vars) was with
     | true =>
      have HRES:=hD (EN.out ANY)
      clear EN ENo EG ES CNR
      go_wp2_with (first
       | (go_at_call 171;(with_reducible refine (CV.out _ BWq.out).mono ?_);rintro e W5 ⟨a5,c5,rfl,i5,b5⟩;have B5:Hid (Below W2.heap.size W2 W5):=bT HBq.out b5;have O5:=hD (HOq.out.below b5);have I5:=hD i5;have CE5:=hD (containsEmp_any W2.heap.size (W2.heap.size+1) W2.heap.size was _ ((nx:Int)::vars) W5 O5.out I5.out HAL.out HVV.out);rw [empty_any,ANY] at CE5;clear b5 i5)
       | (go_at_call 41;(with_reducible refine CE5.out.mono ?_);rintro e w' ⟨rfl,rfl⟩))
      go_ret2
      exact ⟨bT BW2.out B5.out,.inr ⟨HRES.out,rfl⟩⟩
     | false =>
      have EN1:=hD (ENo.out ANY)
      have EG1:=hD (fun ks=>EG.out ks ANY)
      have ES1:=hD (fun ks=>ES.out ks ANY)
      clear EN ENo EG ES
      have CN5:Hid (∀ W5,Below W2.heap.size W2 W5->OutAt W5 W2.heap.size (W2.heap.size+1) W2.heap.size was->Calls Tryz.prog 170 #[.agg #[.int .i64 nx,.slice a0 coef.length c0,.slice a1 vars.length c1,.int .i64 rel,.int .i64 c],.slice (some ⟨BO,0,none⟩) ds.length ds.length,.func (.func 92) #[] #[.pointer (some ⟨W2.heap.size+1,0,none⟩)]] W5 (NarR NK W2.heap.size (W2.heap.size+1) W2.heap.size was W5)):=fun W5 hb ho=>CNR.out W2 W5 _ _ _ BW2.out HWA.out hb ho
      cases NK with
      | none =>
       have HRES:=hD (EN1.out rfl)
       have CN6:Hid (∀ W5,Below W2.heap.size W2 W5->OutAt W5 W2.heap.size (W2.heap.size+1) W2.heap.size was->Calls Tryz.prog 170 #[.agg #[.int .i64 nx,.slice a0 coef.length c0,.slice a1 vars.length c1,.int .i64 rel,.int .i64 c],.slice (some ⟨BO,0,none⟩) ds.length ds.length,.func (.func 92) #[] #[.pointer (some ⟨W2.heap.size+1,0,none⟩)]] W5 fun e W'=>e=.returned (.bool false)/\Below W2.heap.size W5 W'):=fun W5 hb ho =>
        (CN5.out W5 hb ho).mono fun e W' h=>by
         obtain ⟨hb1,_,⟨ks,hk,_⟩ | ⟨_,he⟩⟩:=h
         ·cases hk
         ·exact ⟨he,hb1⟩
       clear CN5 CNR EN1 EG1 ES1
       go_wp2_with (first
        | (go_at_call 171;(with_reducible refine (CV.out _ BWq.out).mono ?_);rintro e W5 ⟨a5,c5,rfl,i5,b5⟩;have B5:Hid (Below W2.heap.size W2 W5):=bT HBq.out b5;have O5:=hD (HOq.out.below b5);have I5:=hD i5;have CE5:=hD (containsEmp_any W2.heap.size (W2.heap.size+1) W2.heap.size was _ ((nx:Int)::vars) W5 O5.out I5.out HAL.out HVV.out);rw [empty_any,ANY] at CE5;clear b5 i5)
        | (go_at_call 41;(with_reducible refine CE5.out.mono ?_);rintro e w' ⟨rfl,rfl⟩)
        | (go_at_call 170;(with_reducible refine (CN6.out _ B5.out O5.out).mono ?_);rintro e W7 ⟨rfl,b7⟩))
       go_ret2
       exact ⟨BW2.out.trans ((B5.out.trans b7).mono BW2.out.size),.inr ⟨HRES.out,rfl⟩⟩
      | some ks =>
       have CN6:Hid (∀ W5,Below W2.heap.size W2 W5->OutAt W5 W2.heap.size (W2.heap.size+1) W2.heap.size was->Calls Tryz.prog 170 #[.agg #[.int .i64 nx,.slice a0 coef.length c0,.slice a1 vars.length c1,.int .i64 rel,.int .i64 c],.slice (some ⟨BO,0,none⟩) ds.length ds.length,.func (.func 92) #[] #[.pointer (some ⟨W2.heap.size+1,0,none⟩)]] W5 fun e W'=>e=.returned (.bool true)/\Below W2.heap.size W5 W'/\Stay W5 W' W2.heap.size/\OutAt W' W2.heap.size (W2.heap.size+1) W2.heap.size (keepsL ks was)):=fun W5 hb ho =>
        (CN5.out W5 hb ho).mono fun e W' h=>by
         obtain ⟨hb1,hs1,⟨ks',hk,he,ho'⟩ | ⟨hk,_⟩⟩:=h
         ·injection hk with hk;subst hk;exact ⟨he,hb1,hs1,ho'⟩
         ·cases hk
       have EG2:=hD (EG1.out ks rfl)
       have ES2:=hD (ES1.out ks rfl)
       have HKL:Hid ((keepsL ks was).length=was.length):=keepsL_len ks was
       clear CN5 CNR EN1 EG1 ES1
       generalize keepsL ks was=fin at *
       have HV2:Hid (∀ v∈((nx:Int)::vars),0<=v/\v.toNat<fin.length):=fun v hv=>by rw [HKL.out];exact HVV.out v hv
       cases ANY2:anyNil ((nx:Int)::vars) fin with
       | true =>
        have HRES:=hD (EG2.out ANY2)
        clear EG2 ES2
        go_wp2_with (first
         | (go_at_call 171;(with_reducible refine (CV.out _ BWq.out).mono ?_);rintro e W5 ⟨a5,c5,rfl,i5,b5⟩;have B5:Hid (Below W2.heap.size W2 W5):=bT HBq.out b5;have O5:=hD (HOq.out.below b5);have I5:=hD i5;have CE5:=hD (containsEmp_any W2.heap.size (W2.heap.size+1) W2.heap.size was _ ((nx:Int)::vars) W5 O5.out I5.out HAL.out HVV.out);rw [empty_any,ANY] at CE5;clear b5 i5)
         | (go_at_call 41;(with_reducible refine CE5.out.mono ?_);rintro e w' ⟨rfl,rfl⟩)
         | (go_at_call 170;(with_reducible refine (CN6.out _ B5.out O5.out).mono ?_);rintro e W7 ⟨rfl,b7,s7,o7⟩;have CE7:=hD (containsEmp_any W2.heap.size (W2.heap.size+1) W2.heap.size fin _ ((nx:Int)::vars) W7 o7 (I5.out.stayO O5.out s7) HAL.out HV2.out);rw [empty_any,ANY2] at CE7;clear CE5)
         | (go_at_call 41;(with_reducible refine CE7.out.mono ?_);rintro e w' ⟨rfl,rfl⟩))
        go_ret2
        exact ⟨BW2.out.trans ((B5.out.trans b7).mono BW2.out.size),.inr ⟨HRES.out,rfl⟩⟩
       | false =>
        have HRES:=hD (ES2.out ANY2)
        clear EG2 ES2
        go_wp2_with (first
         | (go_at_call 171;(with_reducible refine (CV.out _ BWq.out).mono ?_);rintro e W5 ⟨a5,c5,rfl,i5,b5⟩;have B5:Hid (Below W2.heap.size W2 W5):=bT HBq.out b5;have O5:=hD (HOq.out.below b5);have I5:=hD i5;have CE5:=hD (containsEmp_any W2.heap.size (W2.heap.size+1) W2.heap.size was _ ((nx:Int)::vars) W5 O5.out I5.out HAL.out HVV.out);rw [empty_any,ANY] at CE5;clear b5 i5)
         | (go_at_call 41;(with_reducible refine CE5.out.mono ?_);rintro e w' ⟨rfl,rfl⟩)
         | (go_at_call 170;(with_reducible refine (CN6.out _ B5.out O5.out).mono ?_);rintro e W7 ⟨rfl,b7,s7,o7⟩;have CE7:=hD (containsEmp_any W2.heap.size (W2.heap.size+1) W2.heap.size fin _ ((nx:Int)::vars) W7 o7 (I5.out.stayO O5.out s7) HAL.out HV2.out);rw [empty_any,ANY2] at CE7;have hbx7:=o7.box.c0;clear CE5)
         | (go_at_call 41;(with_reducible refine CE7.out.mono ?_);rintro e w' ⟨rfl,rfl⟩))
        go_ret2
        exact ⟨BW2.out.trans ((B5.out.trans b7).mono BW2.out.size),.inl ⟨fin,W2.heap.size,W2.heap.size+1,W2.heap.size,HRES.out,rfl,BW2.out.size,o7⟩⟩
theorem once_allW (p:PL) (va vb vv vds:Value) (ds:Ds) (w:World) (h0:IsAt w va p.coef) (h1:IsAt w vb p.vars) (h2:IsAt w vv p.vs) (hd:DsAt w vds ds)
  (hf:p.Fine ds) (hdl:ds.length<=4096) (hdm:∀ d∈ds,d.length<=4096) :
  Calls Tryz.prog 66 #[propV p.kind va vb p.rel p.c p.x p.y p.z vv,vds] w (RetOW (onceP p ds) w):=by
 obtain ⟨kind,rel,c,x,y,z,coef,vars,vs⟩:=p
 dsimp only at h0 h1 h2 |-
 have hk:=hf.kind
 dsimp only at hk
 rcases hk with rfl | rfl | rfl | rfl
 ·exact once1_c va vb vv vds rel c x y z coef vars vs ds w h0 h1 h2 hd hf hdl hdm
 ·obtain ⟨nx,rfl⟩:=Int.eq_ofNat_of_zero_le (hf.vars x (by simp [PL.all,allL])).1
  obtain ⟨ny,rfl⟩:=Int.eq_ofNat_of_zero_le (hf.vars y (by simp [PL.all,allL])).1
  obtain ⟨nz,rfl⟩:=Int.eq_ofNat_of_zero_le (hf.vars z (by simp [PL.all,allL])).1
  exact once2_c va vb vv vds rel c nx ny nz coef vars vs ds w h0 h1 h2 hd hf hdl hdm
 ·exact once3_c va vb vv vds rel c x y z coef vars vs ds w h0 h1 h2 hd hf hdl hdm
 ·obtain ⟨nx,rfl⟩:=Int.eq_ofNat_of_zero_le (hf.vars x (by simp [PL.all,allL])).1
  exact once4_c va vb vv vds rel c nx y z coef vars vs ds w h0 h1 h2 hd hf hdl hdm
theorem chk_fine (p:PL) (ds:Ds) (h:relChk p.kind p.rel p.c p.x p.y p.z p.coef p.vars p.vs ds.length=0) (hd:∀ d∈ds,d.length<=4096):p.Fine ds:=by
 obtain ⟨kind,rel,c,x,y,z,coef,vars,vs⟩:=p
 dsimp only at h
 unfold relChk at h
 split at h
 ·cases h
 ·rename_i h1
  split at h
  ·rename_i h2;exact absurd h h2.2
  ·rename_i h2
   split at h
   ·cases h
   ·rename_i h3
    split at h
    ·cases h
    ·rename_i h4
     refine ⟨by dsimp only;omega,fun hk=>?_,fun hk=>?_,fun v hv=>?_⟩
     ·dsimp only at hk |-
      have h5:linChk coef vars rel c ds.length=0:=by
       by_cases h6:linChk coef vars rel c ds.length=0
       ·exact h6
       ·exact absurd ⟨hk,h6⟩ h2
      exact chk_good h5 hd
     ·dsimp only at hk |-
      have:¬ (kind=3/\64<vs.length):=h3
      omega
     ·simp only [Bool.not_eq_true,List.any_eq_false] at h4
      have:=h4 v hv
      simp [outB] at this
      omega
theorem SlAt.ownB {w w':World} {k:Nat} {v:Value} {n:Nat} {xs:List Value} (h:SlAt w k v n xs) (hs:w.heap.size<=w'.heap.size) (hb:∀ b,b<w.heap.size->v.ownBlock=some b->w'.heap[b]?=w.heap[b]?):SlAt w' k v n xs:=by
 obtain ⟨h1,ao,cap,rfl,h2,h3,h5,h4⟩:=h
 refine ⟨h1,ao,cap,rfl,h2,h3,h5,fun hp=>?_⟩
 obtain ⟨b,off,rfl,hlt,hc⟩:=h4 hp
 refine ⟨b,off,rfl,Nat.lt_of_lt_of_le hlt hs,fun j hj=>?_⟩
 rw [<- hc j hj]
 exact World.cell?_of_block (a:=⟨b,off+j,none⟩) (hb b hlt rfl)
structure Old (B qb mb:Nat) (pl:Value):Prop where
 q:qb<B
 m:mb<B
 p:∀ b,pl.ownBlock=some b->b<B
theorem Old.keeps {B qb mb:Nat} {pl pl':Value} {W W':World} (h:Old B qb mb pl) (g:QSm qb mb W pl W' pl') {b:Nat} (hb:B<=b) (hl:b<W.heap.size):W'.heap[b]?=W.heap[b]? :=
 g.blk b hl (by have:=h.q;omega) (by have:=h.m;omega) (fun e=>by have:=h.p b e;omega)
theorem QF.old {w:World} {qb mb B:Nat} {pl vp:Value} {L:List Int} {n:Nat} (h:QF w qb mb B pl vp L n):Old w.heap.size qb mb pl:=⟨h.q.lt,h.s.lt,fun _ e=>(own_lt h.q.own e).1⟩
theorem Old.mono {B C qb mb:Nat} {pl:Value} (h:Old B qb mb pl) (hc:B<=C):Old C qb mb pl:=⟨Nat.lt_of_lt_of_le h.q hc,Nat.lt_of_lt_of_le h.m hc,fun b e=>Nat.lt_of_lt_of_le (h.p b e) hc⟩
theorem kept_ints {W:World} {B qb mb:Nat} {pl v:Value} {zs:List Int} (h:IsAt W v zs) (hn:∀ b,v.ownBlock=some b->B<=b) (ho:Old B qb mb pl):KeptM qb mb W pl (fun W'=>IsAt W' v zs) :=
 fun _ _ hs=>SlAt.ownB h hs.b0.size (fun b hb e=>ho.keeps hs (hn b e) hb)
theorem kept_below {qb mb H:Nat} {W:World} {pl:Value} {P:World->Prop} (hP:∀ W',Below H W W'->P W') (hq:H<=qb) (hm:H<=mb) (hp:∀ b,pl.ownBlock=some b->H<=b) (hH:H<=W.heap.size):KeptM qb mb W pl P :=
 fun _ _ hs=>hP _ (hs.below hq hm hp hH)
theorem qsm_below {qb mb:Nat} {w w':World} {pl:Value} (h:Below w.heap.size w w'):QSm qb mb w pl w' pl:=(QSt.of_below h).toM
structure Since (H qb mb:Nat) (w0 W:World) (pl:Value):Prop where
 b:Below H w0 W
 q:H<=qb
 m:H<=mb
 p:∀ b,pl.ownBlock=some b->H<=b
 s:H<=w0.heap.size
theorem Since.on {H qb mb:Nat} {w0 W W':World} {pl pl':Value} (h:Since H qb mb w0 W pl) (g:QSm qb mb W pl W' pl'):Since H qb mb w0 W' pl' :=
 ⟨h.b.trans (g.below h.q h.m h.p (Nat.le_trans h.s h.b.size)),h.q,h.m,fun b e=>by
  rcases g.row b e with h1 | h1
  ·exact h.p b h1
  ·exact Nat.le_trans (Nat.le_trans h.s h.b.size) h1,h.s⟩
theorem wpList_append1I {P:Program} {w0:World} {ops:Array Oper} {rest:List Oper} {o:Oper} {a:Act} {Q:Exit->Act->World->Prop} (hgd:o.guard=none) (s x:Operand) (t:TypeId)
  (ho:o.op=.call { callee:=.builtin .append,args:=#[s,x],argTypes:=#[t,t] })
  (base:Nat) (e:TypeId) (i:TypeInfo) (z:Value) (bytes:Nat) (ht:P.underlying t=some (.slice e)) (hi:P.info? e=some i) (hz:i.zero=some z)
  (hsize:i.size=1) (hby:i.bytes=bytes) (hzs:z.cells.size=1)
  (v:Value) (n:Nat) (xs:List Value) (hs:a.eval s=v) (hown:w0.ownsRow base e 1 v n xs) {e':TypeId}
  (u1:Value) (hx:a.eval x=.slice (some ⟨w0.heap.size,0,none⟩) 1 1) (h1:u1.oneCell'=true)
  (hbytes:(n+1) * bytes<=140737488355328/\n+1<=140737488355328) (hbase:base<=w0.heap.size)
  (h:∀ g cap w',w'.ownsRow base e 1 (.slice (some ⟨g,0,none⟩) (n+1) cap) (n+1) (xs++[u1])->Below base w0 w'->KeepsBut w0 w' v->(∀ b,(Value.slice (some ⟨g,0,none⟩) (n+1) cap).ownBlock=some b->v.ownBlock=some b\/w0.heap.size<=b)->wpList P ops Q rest (a.put o.dst (.slice (some ⟨g,0,none⟩) (n+1) cap)) w') :
  wpList P ops Q (o::rest) a (w0.alloc (.cells #[u1] e')):=by
 refine wpList_append_lies _ hgd s x t ho base e i z 1 bytes ht hi hz hsize hby hzs (by decide) v n xs hs (hown.alloc _) ⟨w0.heap.size,0,none⟩ 1 1 [u1] hx rfl ?_ ?_ (by decide) ?_ hbytes.1 ?_ _ rfl ?_
 ·intro j y hj
  have hadd:((⟨w0.heap.size,0,none⟩:Addr).add j)=⟨w0.heap.size,0+j,none⟩:=Go.WideShapes.add_plain _ _ _
  rw [hadd]
  match j,hj with
  | 0,hj=>simp at hj;subst hj;simp
  | j+1,hj=>simp at hj
 ·intro y hy;simp at hy;subst hy;exact h1
 ·unfold maxLen;omega
 ·simp;omega
 ·intro g cap w' r1 r2 r3 _
  refine h g cap w' r1 (below_grown hbase r2 (ownBlock_ge hown)) (fun b hb hne=>?_) (fun b hb=>?_)
  ·rw [r2.block b (by simp;omega) (fun he=>hne he.symm)]
   exact Below.heap_alloc w0 _ b hb
  ·simp [Value.ownBlock] at hb
   subst hb
   rcases r3 with r3 | r3
   ·exact .inl r3
   ·right;rw [r3];simp
theorem QF.start {w:World} {qb mb B:Nat} {vp:Value} (c0:w.cell? ⟨qb,0,none⟩=some (.slice none 0 0)) (c1:w.cell? ⟨qb,1,none⟩=some vp) (c2:w.cell? ⟨qb,2,none⟩=some (.map (some mb))) (f0:w.frozen? ⟨qb,0,none⟩=false) (lq:qb<B) (lm:mb<B) (hne:qb≠mb) (hs:SetAt Tryz.prog 3 4 w mb 0 (fun _=>false)):QF w qb mb B (.slice none 0 0) vp [] 0 :=
 ⟨⟨c0,c1,c2,f0,World.ownsRow_nil _ _ _ _,lq,lm⟩,hs.congr (fun i=>by simp),List.nodup_nil,hne⟩
theorem Tryz.infoInts:(Tryz.prog.info? 26).map (fun i=>(i.zero,i.size,i.bytes))=some (some (.slice none 0 0),1,24):=by kernel_rfl
theorem mk_irows (n:Nat) (hn:n<=4096) (W:World):(Instr.makeSlice 32 (.int .i64 n) (.int .i64 n)).run Tryz.prog W=.ok (.slice (some ⟨W.heap.size,0,none⟩) n n) (W.alloc (.cells (madeCells #[.slice none 0 0] n) 26)):=by
 obtain ⟨i0,hi,hz0,hz1,hz2⟩:=info_parts Tryz.infoInts
 have h:=run_make (P:=Tryz.prog) W 32 26 i0 (.slice none 0 0) Tryz.underlying32 hi hz0 .i64 .i64 n n (by omega) (Int.le_refl _) (by rw [hz2];omega) (by omega)
 rw [h,hz1]
 simp [Value.cells]
structure FixIn (ds:Ds) (ps:List PL):Prop where
 fine:∀ p∈ps,p.Fine ds
 ok:∀ p∈ps,p.ok
 n:ds.length<=100
 dm:∀ d∈ds,d.length<=4096
 P:ps.length<=300
theorem PL.Fine.now {p:PL} {ds now:Ds} (h:p.Fine ds) (hl:now.length=ds.length) (hn:AllN now):p.Fine now :=
 ⟨h.kind,fun hk=>by
  obtain ⟨g,a,b,c,d⟩:=h.lin hk
  refine ⟨⟨g.len,g.le16,g.coefs,fun v hv=>by rw [hl];exact g.vars v hv,fun d hd=>?_⟩,a,b,c,d⟩
  obtain ⟨j,hj,rfl⟩:=List.mem_iff_getElem.1 hd
  exact Nat.le_trans (normal_len (allN_at hn hj)) (by decide),h.vsl,fun v hv=>by rw [hl];exact h.vars v hv⟩
theorem allN_short' {r:Ds} (h:AllN r):∀ d∈r,d.length<=4096:=fun d hd=>by
 obtain ⟨j,hj,rfl⟩:=List.mem_iff_getElem.1 hd
 exact Nat.le_trans (normal_len (allN_at h hj)) (by decide)
structure QU (W2:World) (H n:Nat) (vp:Value) (ps:List PL) (W:World) (pl:Value) (L:List Int) (c:Nat) (vals:Nat->Value) (us:Nat->List Int):Prop where
 hH:W2.heap.size=H
 si:Since H (H+1) H W2 W pl
 q:QF W (H+1) H (H+3) pl vp L (c+L.length)
 u:UsAt W (H+2) (H+3) n vals us
 ap:UsAp n vals pl
 lp:InPs L ps
 B:H+3<=W.heap.size
theorem QU.len {W2:World} {H n:Nat} {vp:Value} {ps:List PL} {W:World} {pl:Value} {L:List Int} {c:Nat} {vals:Nat->Value} {us:Nat->List Int} (h:QU W2 H n vp ps W pl L c vals us):L.length<=ps.length:=len_places _ _ h.q.nd h.lp
theorem QU.qsm {W2:World} {H n:Nat} {vp:Value} {ps:List PL} {W W':World} {pl pl':Value} {L L':List Int} {c c':Nat} {vals:Nat->Value} {us:Nat->List Int} (h:QU W2 H n vp ps W pl L c vals us) (g:QSm (H+1) H W pl W' pl') (hq:QF W' (H+1) H (H+3) pl' vp L' (c'+L'.length)) (hl:InPs L' ps):QU W2 H n vp ps W' pl' L' c' vals us:=by
 have hB:=h.B
 obtain ⟨u,ap⟩:=h.u.turn (by omega) g (by omega) (by omega) (by omega) (by omega) (own_apart h.q.q.own (by omega)) h.ap
 exact ⟨h.hH,h.si.on g,hq,u,ap,hl,Nat.le_trans hB g.b0.size⟩
theorem QU.below {W2:World} {H n:Nat} {vp:Value} {ps:List PL} {W W':World} {pl:Value} {L:List Int} {c:Nat} {vals:Nat->Value} {us:Nat->List Int} (h:QU W2 H n vp ps W pl L c vals us) (hb:Below W.heap.size W W'):QU W2 H n vp ps W' pl L c vals us :=
 h.qsm (qsm_below hb) (h.q.below hb) h.lp
theorem QU.b0 {W2:World} {H n:Nat} {vp:Value} {ps:List PL} {W:World} {pl:Value} {L:List Int} {c:Nat} {vals:Nat->Value} {us:Nat->List Int} (h:QU W2 H n vp ps W pl L c vals us):Below W2.heap.size W2 W:=by rw [h.hH];exact h.si.b
theorem QU.kept {W2:World} {H n:Nat} {vp:Value} {ps:List PL} {W:World} {pl:Value} {L:List Int} {c:Nat} {vals:Nat->Value} {us:Nat->List Int} (h:QU W2 H n vp ps W pl L c vals us) {P:World->Prop} (hP:∀ W',Below W2.heap.size W2 W'->P W'):KeptM (H+1) H W pl P:=by
 have hB:=h.B
 refine kept_below (H:=H) (fun W' hb=>hP W' ?_) h.si.q h.si.m h.si.p (by omega)
 rw [h.hH];exact h.si.b.trans hb
theorem QU.push {W2:World} {H n:Nat} {vp:Value} {ps:List PL} {W W1:World} {pl:Value} {L:List Int} {c:Nat} {vals:Nat->Value} {us:Nat->List Int} (h:QU W2 H n vp ps W pl L c vals us) {v:Nat} (hv:v<n) {i:Int} {r:Value} {k:Nat} (hk:k=(us v).length+1) (ow:W1.ownsRow (H+3) 3 1 r k ((us v++[i]).map (Value.int .i64))) (bw:Below (H+3) W W1)
  (kw:∀ b,b<W.heap.size->(vals v).ownBlock≠some b->W1.heap[b]?=W.heap[b]?) (aw:∀ b,r.ownBlock=some b->(vals v).ownBlock=some b\/W.heap.size<=b) :
  QU W2 H n vp ps (W1.setCell ⟨H+2,v,none⟩ r) pl L c (fun u=>if u=v then r else vals u) (fun u=>if u=v then us v++[i] else us u):=by
 have hB:=h.B
 have hown:=h.u.own v hv
 have e:∀ b,b<W.heap.size->(vals v).ownBlock≠some b->b≠H+2->(W1.setCell ⟨H+2,v,none⟩ r).heap[b]?=W.heap[b]?:=fun b h1 h2 h3=>(Below.heap_setCell _ _ _ _ (by simpa using h3)).trans (kw b h1 h2)
 refine ⟨h.hH,⟨?_,h.si.q,h.si.m,h.si.p,h.si.s⟩,h.q.frame ?_ ?_ ?_,h.u.push hB hv hk ow bw kw aw,UsAp.push h.u (fun b hb=>(own_lt h.q.q.own hb).1) h.ap hv aw,h.lp,?_⟩
 ·exact (h.si.b.trans (bw.mono (by omega))).setCell (p:=⟨H+2,v,none⟩) (by dsimp only;omega) _
 ·exact e (H+1) (by omega) (own_apart hown (by omega)) (by omega)
 ·exact e H (by omega) (own_apart hown (by omega)) (by omega)
 ·intro b hb
  have h1:=own_lt h.q.q.own hb
  exact e b h1.1 (fun e=>h.ap v b hv e hb) (by omega)
 ·have:=bw.size
  simp [World.setCell];omega
theorem qu_wait {W2:World} {H n:Nat} {vp:Value} {ps:List PL} {W:World} {pl:Value} {L:List Int} {c:Nat} {vals:Nat->Value} {us:Nat->List Int} (h:QU W2 H n vp ps W pl L c vals us) (hp:PsAt W2 vp ps) (hok:∀ p∈ps,p.ok) (hP:ps.length<=300) (hc:c<=20000000) {i:Int} (hi:0<=i/\i.toNat<ps.length) :
  Calls Tryz.prog 62 #[.pointer (some ⟨H+1,0,none⟩),.int .i64 i] W
   fun e W'=>(∃ u,e=.returned u)/\∃ pl' L',QU W2 H n vp ps W' pl' L' c vals us/\(∀ k,k∈L'↔k∈L\/k=i)/\QSm (H+1) H W pl W' pl':=by
 have hl:=h.len
 refine (wait_c (H+1) H (H+3) pl vp L ps i (c+L.length) W h.q (h.kept fun W' hb=>hp.below hb) (fun p hp=>Nat.le_trans (hok p hp).2.2 (by omega)) (by omega) h.lp hi (by omega) (by unfold maxLen;omega) h.B).mono ?_
 rintro e W' ⟨h1,pl',L',hperm,hq,hs⟩
 refine ⟨h1,pl',L',h.qsm hs ?_ ?_,?_,hs⟩
 ·have:=hperm.length_eq
  by_cases hm:i∈L
  ·rw [if_pos hm] at this hq;rw [this];exact hq
  ·rw [if_neg hm] at this hq;rw [this,List.length_append,List.length_singleton,<- Nat.add_assoc];exact hq
 ·intro k hk
  have:=hperm.mem_iff.1 hk
  by_cases hm:i∈L
  ·rw [if_pos hm] at this;exact h.lp k this
  ·rw [if_neg hm] at this
   rcases List.mem_append.1 this with h2 | h2
   ·exact h.lp k h2
   ·rw [List.mem_singleton.1 h2];exact hi
 ·intro k
  rw [hperm.mem_iff]
  by_cases hm:i∈L
  ·rw [if_pos hm]
   exact ⟨.inl,fun h2=>h2.elim id (fun e=>e ▸ hm)⟩
  ·rw [if_neg hm];simp
theorem qu_next {W2:World} {H n:Nat} {vp:Value} {ps:List PL} {W:World} {pl:Value} {L:List Int} {c:Nat} {vals:Nat->Value} {us:Nat->List Int} (h:QU W2 H n vp ps W pl L c vals us) (hp:PsAt W2 vp ps) (hok:∀ p∈ps,p.ok) (hP:ps.length<=300) (hne:L≠[]) :
  Calls Tryz.prog 65 #[.pointer (some ⟨H+1,0,none⟩)] W
   fun e W'=>∃ x:Nat,e=.returned (.int .i64 x)/\x<ps.length/\∃ pl' L',((x:Int)::L').Perm L/\QU W2 H n vp ps W' pl' L' (c+1) vals us/\QSm (H+1) H W pl W' pl':=by
 have hl:=h.len
 obtain ⟨m,hm⟩:∃ m,L.length=m+1:=⟨L.length - 1,by have:=List.length_pos_iff.2 hne;omega⟩
 refine (next_c (H+1) H (H+3) pl vp L ps m (c+L.length) W h.q (h.kept fun W' hb=>hp.below hb) (fun p hp=>Nat.le_trans (hok p hp).2.2 (by omega)) (by omega) h.lp hm (by omega)).mono ?_
 rintro e W' ⟨x,he,pl',L',hperm,hq,hs⟩
 have hx:=h.lp x (hperm.mem_iff.1 List.mem_cons_self)
 obtain ⟨nx,rfl⟩:=Int.eq_ofNat_of_zero_le hx.1
 have hle:=hperm.length_eq
 rw [List.length_cons] at hle
 refine ⟨nx,he,by have:=hx.2;omega,pl',L',hperm,h.qsm hs ?_ (fun k hk=>h.lp k (hperm.mem_iff.1 (List.mem_cons_of_mem _ hk))),hs⟩
 rw [show c+1+L'.length=c+L.length by omega]
 exact hq
structure UsP (ps:List PL) (i t:Nat) (vs:List Int) (us:Nat->List Int):Prop where
 old:∀ k,(hk:k<ps.length)->k<i->∀ v∈ps[k].all,(k:Int)∈us v.toNat
 cur:∀ j,j<t->∀ v,vs[j]?=some v->(i:Int)∈us v.toNat
 ins:∀ v,InPs (us v) ps
 len:∀ v,(us v).length<=i * 8192+t
theorem UsP.start (ps:List PL) (vs:List Int):UsP ps 0 0 vs (fun _=>[]):=⟨fun _ _ h=>absurd h (Nat.not_lt_zero _),fun _ h=>absurd h (Nat.not_lt_zero _),fun _ _ h=>by simp at h,fun _=>by simp⟩
theorem UsP.start' {ps:List PL} {i:Nat} {vs us} (vs':List Int) (h:UsP ps i 0 vs us):UsP ps i 0 vs' us:=⟨h.old,fun _ h=>absurd h (Nat.not_lt_zero _),h.ins,h.len⟩
theorem UsP.push {ps:List PL} {i t:Nat} {vs:List Int} {us:Nat->List Int} (h:UsP ps i t vs us) (hi:i<ps.length) {v:Nat} (hv:vs[t]?=some (v:Int)):UsP ps i (t+1) vs (fun u=>if u=v then us v++[(i:Int)] else us u):=by
 have hsub:∀ (u:Nat) (k:Int),k∈us u->k∈(if u=v then us v++[(i:Int)] else us u):=fun u k hk=>by
  by_cases e:u=v
  ·subst e;rw [if_pos rfl];exact List.mem_append_left _ hk
  ·rw [if_neg e];exact hk
 refine ⟨fun k hk hki w hw=>hsub _ _ (h.old k hk hki w hw),fun j hj w hw=>?_,fun u k hk=>?_,fun u=>?_⟩
 ·by_cases hjt:j<t
  ·exact hsub _ _ (h.cur j hjt w hw)
  ·obtain rfl:j=t:=by omega
   rw [hv] at hw
   injection hw with hw
   subst hw
   rw [Int.toNat_natCast,if_pos rfl];simp
 ·by_cases e:u=v
  ·rw [if_pos e] at hk
   rcases List.mem_append.1 hk with h1 | h1
   ·exact h.ins v k h1
   ·rw [List.mem_singleton.1 h1];omega
  ·rw [if_neg e] at hk;exact h.ins u k hk
 ·have h1:=h.len v
  have h2:=h.len u
  split
  ·rw [List.length_append,List.length_singleton];omega
  ·omega
theorem UsP.next {ps:List PL} {i:Nat} {us:Nat->List Int} (hi:i<ps.length) (h:UsP ps i (uniqL ps[i].all).length (uniqL ps[i].all) us) (hl:(uniqL ps[i].all).length<=4096) (vs':List Int):UsP ps (i+1) 0 vs' us :=
 ⟨fun k hk hki v hv=>by
  by_cases e:k=i
  ·subst e
   obtain ⟨j,hj,e⟩:=List.mem_iff_getElem.1 (mem_uniqL.2 hv)
   exact h.cur j hj v (by rw [List.getElem?_eq_getElem hj,e])
  ·exact h.old k hk (by omega) v hv,fun _ h=>absurd h (Nat.not_lt_zero _),h.ins,fun v=>by
  have h1:=h.len v
  clear h
  generalize (us v).length=a at *
  generalize (uniqL ps[i].all).length=m at *
  rw [Nat.add_mul,Nat.one_mul]
  omega⟩
theorem UsP.done {ps:List PL} {vs:List Int} {us:Nat->List Int} (h:UsP ps ps.length 0 vs us):UsOk ps ps.length us:=⟨fun k hk _ v hv=>h.old k hk hk v hv,h.ins⟩
theorem allL_len (kind:Int) (vars:List Int) (x y z:Int) (vs:List Int) (h1:vars.length<=4095) (h2:vs.length<=4095):(allL kind vars x y z vs).length<=4096:=by
 unfold allL
 split
 ·omega
 ·split
  ·simp
  ·split
   ·omega
   ·split
    ·simp;omega
    ·simp
theorem all_len {p:PL} (h:p.ok):(uniqL p.all).length<=4096:=Nat.le_trans (uniqL_len _) (allL_len _ _ _ _ _ _ h.2.1 h.2.2)
theorem QU.start {W2:World} {H n:Nat} (hH:W2.heap.size=H) (hn:n<=100) (vp:Value) (ps:List PL) (T1 T2:TypeId) :
  QU W2 H n vp ps (((W2.alloc (.map #[] 0)).alloc (.cells #[.slice none 0 0,vp,.map (some H)] T1)).alloc (.cells (madeCells #[.slice none 0 0] n) T2)) (.slice none 0 0) [] 0 (fun _=>.slice none 0 0) (fun _=>[]):=by
 subst hH
 have b1:Below W2.heap.size W2 (W2.alloc (.map #[] 0)):=bA _
 have b2:=b1.alloc (by simp) (.cells #[.slice none 0 0,vp,.map (some W2.heap.size)] T1)
 have B2:BoxL ((W2.alloc (.map #[] 0)).alloc (.cells #[.slice none 0 0,vp,.map (some W2.heap.size)] T1)) (W2.heap.size+1) [.slice none 0 0,vp,.map (some W2.heap.size)]:=by
  have h:=BoxL.mk' (W2.alloc (.map #[] 0)) #[.slice none 0 0,vp,.map (some W2.heap.size)] T1
  rw [show (W2.alloc (.map #[] 0)).heap.size=W2.heap.size+1 by simp] at h
  exact h
 generalize hWx:(W2.alloc (.map #[] 0)).alloc (.cells #[.slice none 0 0,vp,.map (some W2.heap.size)] T1)=Wx at *
 have hsx:Wx.heap.size=W2.heap.size+2:=by rw [<- hWx];simp
 have bx:Below Wx.heap.size Wx (Wx.alloc (.cells (madeCells #[.slice none 0 0] n) T2)):=bA _
 have B3:=B2.below bx (by omega)
 obtain ⟨c0,f0⟩:=B3.get 0 (u:=.slice none 0 0) rfl
 obtain ⟨c1,_⟩:=B3.get 1 (u:=vp) rfl
 obtain ⟨c2,_⟩:=B3.get 2 (u:=.map (some W2.heap.size)) rfl
 have hS0:SetAt Tryz.prog 3 4 Wx W2.heap.size 0 (fun _=>false):=by
  rw [<- hWx]
  exact (SetAt.made W2).later (bA _)
 have hS:=hS0.later bx
 have ow:=World.ownsRow_lit (base:=0) Wx (madeCells #[.slice none 0 0] n) n (e:=T2) (size:=1) (Nat.zero_le _) (by unfold maxLen;omega) (by simp [size_madeCells])
 rw [toList_madeCells_one,hsx] at ow
 refine ⟨rfl,⟨b2.trans (bx.mono (by omega)),by omega,by omega,fun b hb=>by simp [Value.ownBlock] at hb,rN _⟩,QF.start c0 c1 c2 f0 (by omega) (by omega) (by omega) hS,⟨fun v hv=>?_,fun v hv=>ow.frozenAt v,fun v hv=>World.ownsRow_nil _ _ _ _,fun u v b _ _ _ hb=>by simp [Value.ownBlock] at hb,by omega⟩,fun v b _ hb=>by simp [Value.ownBlock] at hb,fun k hk=>by simp at hk,by simp;omega⟩
 rw [ow.cellAt v (by omega),List.getElem?_replicate_of_lt (by omega)]
structure VsAt (W:World) (H n:Nat) (v:Value) (vs:List Int) (vals:Nat->Value):Prop where
 at':IsAt W v vs
 ap:∀ u b,u<n->(vals u).ownBlock=some b->v.ownBlock≠some b
 new:∀ b,v.ownBlock=some b->H+3<=b
theorem VsAt.mk' {W2:World} {H n:Nat} {vp:Value} {ps:List PL} {W W':World} {pl:Value} {L:List Int} {c:Nat} {vals:Nat->Value} {us:Nat->List Int} (h:QU W2 H n vp ps W pl L c vals us) {v:Value} {vs:List Int} (hi:IsAt W' v vs) (hn:∀ b,v.ownBlock=some b->W.heap.size<=b):VsAt W' H n v vs vals :=
 ⟨hi,fun u b hu e e'=>by have:=(own_lt (h.u.own u hu) e).1;have:=hn b e';omega,fun b e=>Nat.le_trans h.B (hn b e)⟩
theorem VsAt.push {W W1:World} {H n:Nat} {x:Value} {vs:List Int} {vals:Nat->Value} (h:VsAt W H n x vs vals) {v:Nat} (hv:v<n) (hx:∀ b,x.ownBlock=some b->b<W.heap.size) {r:Value} (hs:W.heap.size<=W1.heap.size)
  (kw:∀ b,b<W.heap.size->(vals v).ownBlock≠some b->W1.heap[b]?=W.heap[b]?) (aw:∀ b,r.ownBlock=some b->(vals v).ownBlock=some b\/W.heap.size<=b) :
  VsAt (W1.setCell ⟨H+2,v,none⟩ r) H n x vs (fun u=>if u=v then r else vals u):=by
 refine ⟨SlAt.ownB h.at' (by simpa [World.setCell] using hs) (fun b hb e=>?_),fun u b hu e=>?_,h.new⟩
 ·have h1:=h.new b e
  exact (Below.heap_setCell _ _ _ _ (by dsimp only;omega)).trans (kw b hb (fun e'=>h.ap v b hv e' e))
 ·by_cases e1:u=v
  ·rw [if_pos e1] at e
   rcases aw b e with h1 | h1
   ·exact h.ap v b hv h1
   ·exact fun e'=>by have:=hx b e';omega
  ·rw [if_neg e1] at e
   exact h.ap u b hu e
end
end Go.Proofs.YtaekdgikgbdnnaaGreat
