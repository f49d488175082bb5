/-
  What the laws of layer 15 begin with: the bound, the check.
  rel.Once: what its four kinds share.
  rel.Once of a constraint of kind 1 (linear), walked.
-/
import Derived.Test.YtaekdgikgbdnnaaGreatKref1
import Derived.Test.YtaekdgikgbdnnaaGreatKlin6
import Derived.Test.YtaekdgikgbdnnaaGreatKlin2
import Derived.Test.YtaekdgikgbdnnaaGreatKonce6
namespace Go.Proofs.YtaekdgikgbdnnaaGreat
section
open Go.RowKit
theorem chk_good {coef vars:List Int} {rel c:Int} {ds:Ds} (h:linChk coef vars rel c ds.length=0) (hd:∀ d∈ds,d.length<=4096) :
  GoodL coef vars ds/\(rel=1\/rel=2\/rel=3)/\(-1099511627776<=c/\c<=1099511627776)/\(∀ z∈coef,z≠0)/\vars.Nodup:=by
 unfold linChk at h
 split at h
 ·cases h
 ·rename_i hs
  split at h
  ·cases h
  ·rename_i hv
   simp only [shapeB,Bool.or_eq_true,not_or,bne_iff_ne,ne_eq,Decidable.not_not,decide_eq_true_eq,Bool.not_eq_true,List.any_eq_false] at hs
   obtain ⟨⟨⟨⟨⟨⟨h1,h2⟩,h3⟩,h4⟩,h5⟩,h6⟩,h7⟩:=hs
   have hv':∀ k,k<vars.length->badV vars ds.length k=false:=fun k hk=>by
    simp only [Bool.not_eq_true,List.any_eq_false,List.mem_range] at hv
    exact hv k hk
   have hod:∀ z∈coef,z≠0/\-100000<=z/\z<=100000:=fun z hz=>by
    have:=h7 z hz
    simp [oddB] at this
    omega
   have hb:∀ k,(hk:k<vars.length)->0<=vars[k]/\vars[k]<ds.length/\∀ j,(hj:j<k)->vars[k]≠vars[j]'(by omega):=fun k hk=>by
    have:=hv' k hk
    unfold badV at this
    rw [List.getD_eq_getElem?_getD,List.getElem?_eq_getElem hk,Option.getD_some] at this
    simp only [Bool.or_eq_false_iff,decide_eq_false_iff_not,List.any_eq_false,beq_iff_eq] at this
    refine ⟨by omega,by omega,fun j hj he=>this.2 (vars[j]'(by omega)) ?_ he⟩
    rw [List.mem_take_iff_getElem]
    exact ⟨j,by omega,rfl⟩
   refine ⟨⟨h1,by omega,fun z hz=>(hod z hz).2,fun v hv=>?_,hd⟩,by omega,⟨by omega,by omega⟩,fun z hz=>(hod z hz).1,?_⟩
   ·obtain ⟨k,hk,rfl⟩:=List.getElem_of_mem hv
    have:=hb k hk;exact ⟨this.1,this.2.1⟩
   ·rw [List.Nodup,List.pairwise_iff_getElem]
    intro i j hi hj hij he
    exact (hb j hj).2.2 i hij he.symm
theorem RetO.is {r:Ds} {w w':World} {e:Ending} (h:RetO (some r) w e w'):∃ ao cap,e=.returned (.tuple #[.slice ao r.length cap,.bool true])/\DsAt w' (.slice ao r.length cap) r/\Below w.heap.size w w':=by
 obtain ⟨hb,⟨ds,ao,cap,hr,he,hd⟩ | ⟨hr,_⟩⟩:=h
 ·cases hr;exact ⟨ao,cap,he,hd,hb⟩
 ·cases hr
def U16At (w:World) (v:Value) (zs:List Int):Prop:=SlAt w 1 v zs.length (zs.map (Value.int .u16))
theorem U16At.below {w w':World} {v:Value} {zs:List Int} (h:U16At w v zs) (hb:Below w.heap.size w w'):U16At w' v zs:=SlAt.below h hb
theorem U16At.get {w:World} {ao:Option Addr} {n cap:Nat} {zs:List Int} (h:U16At w (.slice ao n cap) zs) (k:Nat) (hk:k<zs.length) :
  ∃ b off,ao=some ⟨b,off,none⟩/\zs.length<=cap/\b<w.heap.size/\w.cell? ⟨b,off+k,none⟩=some (.int .u16 zs[k]):=by
 obtain ⟨b,off,c',he,hc,_,hb,hx⟩:=SlAt.pos h (by omega)
 simp only [Value.slice.injEq] at he
 obtain ⟨rfl,rfl,rfl⟩:=he
 exact ⟨b,off,rfl,hc,hb,by rw [hx k (by omega),List.getElem?_map,List.getElem?_eq_getElem hk];rfl⟩
theorem IsAt.stayO {W W':World} {B bo g:Nat} {out:Ds} {v:Value} {zs:List Int} (h:IsAt W v zs) (ho:OutAt W B bo g out) (hs:Stay W W' g):IsAt W' v zs:=by
 obtain ⟨h1,ao,cap,rfl,h2,h3,h5,h4⟩:=h
 refine ⟨h1,ao,cap,rfl,h2,h3,h5,fun hp=>?_⟩
 obtain ⟨b,off,rfl,hlt,hc⟩:=h4 hp
 have hne:b≠g:=by
  rintro rfl
  have h0:=hc 0 hp
  have hz:0<zs.length:=by omega
  rw [List.getElem?_map,List.getElem?_eq_getElem hz] at h0
  exact ho.no_int _ _ h0
 exact ⟨b,off,rfl,Nat.lt_of_lt_of_le hlt hs.1,fun j hj=>(hs.cell (p:=⟨b,off+j,none⟩) hlt hne).trans (hc j hj)⟩
structure PL.Fine (p:PL) (ds:Ds):Prop where
 kind:p.kind=1\/p.kind=2\/p.kind=3\/p.kind=4
 lin:p.kind=1\/p.kind=4->GoodL p.coef p.vars ds/\(p.rel=1\/p.rel=2\/p.rel=3)/\(-1099511627776<=p.c/\p.c<=1099511627776)/\(∀ z∈p.coef,z≠0)/\p.vars.Nodup
 vsl:p.kind=3->p.vs.length<=64
 vars:∀ v∈p.all,0<=v/\v.toNat<ds.length
theorem PL.Fine.good {p:PL} {ds:Ds} (h:p.Fine ds):p.Good ds.length:=⟨h.kind,fun hk=>(h.lin hk).1.len,h.vars⟩
theorem good_norm {coef vars:List Int} {ds:Ds} (h:GoodL coef vars ds):GoodL coef vars (ds.map norm) :=
 ⟨h.len,h.le16,h.coefs,fun v hv=>by have:=h.vars v hv;simpa using this,fun d hd=>by
  obtain ⟨e,_,rfl⟩:=List.mem_map.1 hd
  exact Nat.le_trans (norm_len e) (by decide)⟩
theorem empty_any (l:List Int) (ds:Ds):l.any (empB ds)=anyNil l ds:=rfl
theorem onceP_nil {p:PL} {ds:Ds} (h:anyNil p.all (ds.map norm)=true):onceP p ds=none:=by unfold onceP;rw [if_pos h]
theorem onceP_no {p:PL} {ds:Ds} (h:anyNil p.all (ds.map norm)=false) (hk:narrowKs p (ds.map norm)=none):onceP p ds=none:=by
 unfold onceP;rw [if_neg (by rw [h];simp),hk]
theorem onceP_gone {p:PL} {ds:Ds} {ks:Ks} (h:anyNil p.all (ds.map norm)=false) (hk:narrowKs p (ds.map norm)=some ks) (he:anyNil p.all (keepsL ks (ds.map norm))=true):onceP p ds=none:=by
 unfold onceP;rw [if_neg (by rw [h];simp),hk];dsimp only;rw [if_pos he]
theorem onceP_some {p:PL} {ds:Ds} {ks:Ks} (h:anyNil p.all (ds.map norm)=false) (hk:narrowKs p (ds.map norm)=some ks) (he:anyNil p.all (keepsL ks (ds.map norm))=false):onceP p ds=some (keepsL ks (ds.map norm)):=by
 unfold onceP;rw [if_neg (by rw [h];simp),hk];dsimp only;rw [if_neg (by rw [he];simp)]
theorem outAt_made (W:World) (n:Nat) (hn:n<=4096) (T T2:TypeId) (hT:T=61) :
  OutAt ((W.alloc (.cells (madeCells #[.slice none 0 0] n) T)).alloc (.cells #[.slice (some ⟨W.heap.size,0,none⟩) n n] T2)) W.heap.size (W.heap.size+1) W.heap.size (List.replicate n []):=by
 have h:=DsOwn.made W n (by unfold maxLen;omega) T hT
 have h2:=Box1.mk' (W.alloc (.cells (madeCells #[.slice none 0 0] n) T)) (.slice (some ⟨W.heap.size,0,none⟩) n n) T2
 rw [show (W.alloc (.cells (madeCells #[.slice none 0 0] n) T)).heap.size=W.heap.size+1 by simp] at h2
 refine ⟨?_,by rw [List.length_replicate];exact h2,by omega,by omega,rN _,fun d hd=>?_,fun j hj u hu b e=>?_⟩
 ·rw [List.length_replicate];exact h.below (bA _)
 ·have:=List.eq_of_mem_replicate hd;subst this;simp
 ·subst hT
  rw [List.length_replicate] at hj
  have h3:=World.ownsRow_lit (base:=W.heap.size) W (madeCells #[.slice none 0 0] n) n (e:=61) (size:=1) (rN _) (by unfold maxLen;omega) (by simp [size_madeCells])
  rw [toList_madeCells_one] at h3
  obtain ⟨g2,cap2,he,_,hcs⟩:=owns_pos h3 (by omega)
  simp only [Value.slice.injEq,Option.some.injEq,Addr.mk.injEq,and_true] at he
  obtain ⟨hg2,_⟩:=he
  subst hg2
  have h4:=hcs j (by omega)
  rw [List.getElem?_replicate,if_pos hj] at h4
  rw [Lib.cell?_alloc_some _ h4] at hu
  injection hu with hu
  subst hu
  simp [Value.ownBlock] at e
theorem DsAt.stayO {W W':World} {B bo g:Nat} {out:Ds} {v:Value} {ds:Ds} (h:DsAt W v ds) (ho:OutAt W B bo g out) (hs:Stay W W' g) (hv:∀ b,v.ownBlock=some b->b≠g):DsAt W' v ds:=by
 obtain ⟨us,h1,⟨k1,ao,cap,rfl,k2,k3,k5,k4⟩,h3⟩:=h
 refine ⟨us,h1,⟨k1,ao,cap,rfl,k2,k3,k5,fun hp=>?_⟩,fun j hj=>by obtain ⟨u,a,b⟩:=h3 j hj;exact ⟨u,a,b.stay ho hs⟩⟩
 obtain ⟨b,off,rfl,hlt,hc⟩:=k4 hp
 exact ⟨b,off,rfl,Nat.lt_of_lt_of_le hlt hs.1,fun j hj=>(hs.cell (p:=⟨b,off+j,none⟩) hlt (hv b rfl)).trans (hc j hj)⟩
theorem OutAt.at {W:World} {B bo g:Nat} {out:Ds} (h:OutAt W B bo g out):DsAt W (.slice (some ⟨g,0,none⟩) out.length out.length) out:=h.own.at
def RetOW (r:Option Ds) (w:World) (e:Ending) (w':World):Prop :=
 Below w.heap.size w w'/\((∃ ds B bo g,r=some ds/\e=.returned (.tuple #[.slice (some ⟨g,0,none⟩) ds.length ds.length,.bool true])/\w.heap.size<=B/\OutAt w' B bo g ds)\/(r=none/\e=.returned (.tuple #[.slice none 0 0,.bool false])))
theorem norm_norm_map (ds:Ds):(ds.map norm).map norm=ds.map norm:=by rw [List.map_map];congr 1;funext d;exact norm_norm d
theorem len201 {ds:Ds}:∀ d∈ds.map norm,d.length<=201:=fun d hd=>by
 obtain ⟨e,_,rfl⟩:=List.mem_map.1 hd
 exact norm_len e
theorem normTo_short (ds:Ds) (k:Nat):∀ d∈normTo ds k,d.length<=4096:=fun d hd=>by
 unfold normTo at hd
 rcases List.mem_append.1 hd with h | h
 ·obtain ⟨e,_,rfl⟩:=List.mem_map.1 h
  exact Nat.le_trans (norm_len e) (by decide)
 ·have:=List.eq_of_mem_replicate h;subst this;simp
set_option maxRecDepth 100000
set_option maxHeartbeats 3200000
theorem once1_c (va vb vv vds:Value) (rel c x y z:Int) (coef vars vs:List Int) (ds:Ds) (w:World) (h0:IsAt w va coef) (h1:IsAt w vb vars) (h2:IsAt w vv vs) (hd:DsAt w vds ds)
  (hf:(PL.mk 1 rel c x y z coef vars vs).Fine ds) (hdl:ds.length<=4096) (hdm:∀ d∈ds,d.length<=4096) :
  Calls Tryz.prog 66 #[propV 1 va vb rel c x y z vv,vds] w (RetOW (onceP (PL.mk 1 rel c x y z coef vars vs) ds) w):=by
 obtain ⟨a0,c0,rfl,_⟩:=IsAt.shape h0
 obtain ⟨a1,c1,rfl,_⟩:=IsAt.shape h1
 obtain ⟨a2,c2,rfl,_⟩:=IsAt.shape h2
 obtain ⟨ad,cd,rfl,_⟩:=hd.shape
 have hall:(PL.mk 1 rel c x y z coef vars vs).all=vars:=rfl
 have HZ:Hid (Below w.heap.size w (w.alloc (.cells #[.int .i64 1,.slice a0 coef.length c0,.slice a1 vars.length c1,.int .i64 rel,.int .i64 c,.int .i64 x,.int .i64 y,.int .i64 z,.slice a2 vs.length c2] 67))):=bA _
 have CO:Hid (Calls Tryz.prog 84 #[.agg #[.int .i64 1,.slice a0 coef.length c0,.slice a1 vars.length c1,.int .i64 rel,.int .i64 c,.int .i64 x,.int .i64 y,.int .i64 z,.slice a2 vs.length c2]] (w.alloc (.cells #[.int .i64 1,.slice a0 coef.length c0,.slice a1 vars.length c1,.int .i64 rel,.int .i64 c,.int .i64 x,.int .i64 y,.int .i64 z,.slice a2 vs.length c2] 67)) fun e w'=>e=.returned (.iface 124 (.agg #[.slice a0 coef.length c0,.slice a1 vars.length c1,.int .i64 rel,.int .i64 c]))/\Below (w.alloc (.cells #[.int .i64 1,.slice a0 coef.length c0,.slice a1 vars.length c1,.int .i64 rel,.int .i64 c,.int .i64 x,.int .i64 y,.int .i64 z,.slice a2 vs.length c2] 67)).heap.size (w.alloc (.cells #[.int .i64 1,.slice a0 coef.length c0,.slice a1 vars.length c1,.int .i64 rel,.int .i64 c,.int .i64 x,.int .i64 y,.int .i64 z,.slice a2 vs.length c2] 67)) w'):=of_c 1 a0 a1 a2 coef.length vars.length vs.length c0 c1 c2 rel c x y z _
 have CV:Hid (∀ W,Below w.heap.size w W->Calls Tryz.prog 156 #[.agg #[.slice a0 coef.length c0,.slice a1 vars.length c1,.int .i64 rel,.int .i64 c]] W fun e w'=>∃ ao cap,e=.returned (.slice ao vars.length cap)/\IsAt w' (.slice ao vars.length cap) vars/\Below W.heap.size W w'):=fun W h=>(varsLin_c a0 a1 coef.length vars.length c0 c1 rel c W).mono fun e w' ⟨he,hb⟩=>⟨a1,c1,he,h1.below (bT h hb),hb⟩
 have CNR:Hid (∀ W2 W5 vw bo g,Below w.heap.size w W2->DsAt W2 vw (ds.map norm)->Below W2.heap.size W2 W5->OutAt W5 W2.heap.size bo g (ds.map norm)->Calls Tryz.prog 155 #[.agg #[.slice a0 coef.length c0,.slice a1 vars.length c1,.int .i64 rel,.int .i64 c],vw,.func (.func 92) #[] #[.pointer (some ⟨bo,0,none⟩)]] W5 (NarR (narrowKs (PL.mk 1 rel c x y z coef vars vs) (ds.map norm)) W2.heap.size bo g (ds.map norm) W5)):=fun W2 W5 vw bo g hW2 hvw hb5 ho =>
  narLin_c _ _ _ rel c coef vars (ds.map norm) (ds.map norm) W2 W5 W2.heap.size bo g rfl hb5 (h0.below (bT hW2 hb5)) (h1.below (bT hW2 hb5)) (fun hv b hb=>by
    have h4:=ho.gl
    obtain ⟨b',_,rfl,_,hb',_⟩:=h1.get 0 hv
    have:=hW2.size
    simp [Value.ownBlock] at hb;omega) hvw (good_norm (hf.lin (.inl rfl)).1) (hf.lin (.inl rfl)).2.1 (by have:=(hf.lin (.inl rfl)).2.2.1;dsimp only at this;omega) (hf.lin (.inl rfl)).2.2.2.1 (by simpa using hdl) (allN_norm ds) ho rfl
 have CN:Hid (∀ d,d∈ds->∀ vd W,RgAt W vd d->Calls Tryz.prog 54 #[vd] W (RetR (norm d) W)):=fun d hm vd W hr=>norm_c vd d W hr (hdm d hm)
 have HD:=hD hd
 have HST:=hD (normTo_step ds)
 have HNL:=hD (normTo_len ds)
 have HST2:=hD (normTo_step (ds.map norm))
 have HNL2:=hD (normTo_len (ds.map norm))
 have H02:=hD (normTo_zero (ds.map norm))
 have HA2:Hid (normTo (ds.map norm) (ds.map norm).length=ds.map norm):=(normTo_all _).trans (norm_norm_map ds)
 have HWL:Hid ((ds.map norm).length=ds.length):=by show _=_;simp
 have HW2:Hid (∀ d∈ds.map norm,d.length<=201):=len201
 have HNN:Hid (∀ d∈ds.map norm,norm d=d):=fun d hd=>by obtain ⟨e,_,rfl⟩:=List.mem_map.1 hd;exact norm_norm e
 have HAL:Hid (vars.length<=4097):=by
  show _<=_
  have:=(hf.lin (.inl rfl)).1.len;have:=(hf.lin (.inl rfl)).1.le16;dsimp only at *;omega
 have HVV:Hid (∀ v∈vars,0<=v/\v.toNat<(ds.map norm).length):=fun v hv=>by have:=hf.vars v hv;simpa using this
 have hmk:=mk_rows ds.length hdl
 have EN:Hid (anyNil vars (ds.map norm)=true->onceP (PL.mk 1 rel c x y z coef vars vs) ds=none):=fun h=>onceP_nil (p:=(PL.mk 1 rel c x y z coef vars vs)) h
 have ENo:Hid (anyNil vars (ds.map norm)=false->narrowKs (PL.mk 1 rel c x y z coef vars vs) (ds.map norm)=none->onceP (PL.mk 1 rel c x y z coef vars vs) ds=none):=fun h hk=>onceP_no (p:=(PL.mk 1 rel c x y z coef vars vs)) h hk
 have EG:Hid (∀ ks,anyNil vars (ds.map norm)=false->narrowKs (PL.mk 1 rel c x y z coef vars vs) (ds.map norm)=some ks->anyNil vars (keepsL ks (ds.map norm))=true->onceP (PL.mk 1 rel c x y z coef vars vs) ds=none):=fun ks h hk he=>onceP_gone (p:=(PL.mk 1 rel c x y z coef vars vs)) h hk he
 have ES:Hid (∀ ks,anyNil vars (ds.map norm)=false->narrowKs (PL.mk 1 rel c x y z coef vars vs) (ds.map norm)=some ks->anyNil vars (keepsL ks (ds.map norm))=false->onceP (PL.mk 1 rel c x y z coef vars vs) ds=some (keepsL ks (ds.map norm))):=fun ks h hk he=>onceP_some (p:=(PL.mk 1 rel c x y z coef vars vs)) h hk he
 clear h0 h1 h2 hd hf hdm hall
 generalize onceP (PL.mk 1 rel c x y z coef vars vs) ds=RES at *
 generalize narrowKs (PL.mk 1 rel c x y z coef vars vs) (ds.map norm)=NK at *
 obtain ⟨was,hwas⟩:∃ was,was=ds.map norm:=⟨_,rfl⟩
 have HTA:=hD (normTo_all ds)
 rw [<- hwas] at CNR HST2 HNL2 H02 HA2 HWL HW2 HNN HVV EN ENo EG ES HTA
 have HWS:=hD hwas
 clear hwas
 unfold propV
 go_enter Tryz.func66,Tryz.ntmps66
 go_wp2_with (go_at_call 84;(with_reducible refine CO.out.mono ?_);rintro e W1 ⟨rfl,bb⟩;have B1:=hD (bT HZ.out bb);clear bb)
 obtain ⟨BO,hBO⟩:∃ BO,BO=W1.heap.size:=⟨_,rfl⟩
 rw [<- hBO]
 have HSZ:=hD hBO.symm
 clear hBO
 go_loopw [22] (fun s wr=>∃ k:Nat,k<=ds.length/\s=.int .i64 k/\DsOwn wr BO (.slice (some ⟨BO,0,none⟩) ds.length ds.length) (normTo ds k)/\Below W1.heap.size W1 wr) (fun s _=>ds.length - (intOf s).toNat)
 case atStart=>exact ⟨0,by omega,rfl,by rw [normTo_zero];have h:=DsOwn.made W1 ds.length (by unfold maxLen;omega) _ rfl;rw [HSZ.out] at h;exact h,bA _⟩
 case round =>
  obtain ⟨k,hk,rfl,hown,hbel⟩:=hrel
  have HB1:=hD hbel
  have hle:=hbel.size
  have hwl:=B1.out.size
  clear hbel
  by_cases hlt:k<ds.length
  ·obtain ⟨b,off,ao,cap,rfl,q1,q2,_,hc,hrg⟩:=(HD.out).get k hlt
   have j1:(k:Int)<ds.length:=by omega
   have hbw:Below w.heap.size w wr:=B1.out.trans (HB1.out.mono hwl)
   rw [<- hbw.cell (p:=⟨b,off+k,none⟩) q2] at hc
   have CN1:=hD (CN.out ds[k] (List.getElem_mem hlt) _ wr (hrg.below hbw))
   have hst:=hD (HST.out k hlt)
   have hnl:=HNL.out k hk
   clear hrg hbw
   generalize ds[k]=d at *
   go_wp2_with (go_at_call 54;(with_reducible refine CN1.out.mono ?_);rintro e W3 ⟨a3,c3,rfl,r3,b3⟩;have HO:=hD (hown.below b3);have B3:=hD (HB1.out.trans (b3.mono hle));have R3:=hD r3;obtain ⟨u3,z2,z3⟩:=HO.out.cellAt k (Nat.lt_of_lt_of_eq hlt hnl.symm);clear b3 r3)
   refine ⟨⟨k+1,by omega,by go_num,?_,B3.out.setCell (p:=⟨BO,k,none⟩) (Nat.le_of_eq HSZ.out) _⟩,by simp [intOf];omega⟩
   rw [hst.out]
   have:=HO.out
   rw [<- hnl] at this |-
   exact DsOwn.set this k (by omega) R3.out
  ·obtain rfl:k=ds.length:=by omega
   rw [HTA.out] at hown
   clear CN HST HNL HTA hlt hk CO
   obtain ⟨W2,hW2⟩:∃ W2:World,W2=wr:=⟨_,rfl⟩
   subst hW2
   have BW2:=hD (B1.out.trans (HB1.out.mono hwl))
   have HWA:Hid (DsAt W2 (.slice (some ⟨BO,0,none⟩) ds.length ds.length) was):=by
    have:=hown.at;exact this
   have hbo:BO<W2.heap.size:=by
    have h1:=HSZ.out
    have h2:=HB1.out.size
    rcases Nat.lt_or_ge BO W2.heap.size with h | h
    ·exact h
    ·exfalso
     obtain ⟨us,_,ow,_⟩:=hown
     have:=(ow.lt BO rfl).2
     omega
   have OM:=hD (outAt_made W2 ds.length hdl 61 22 rfl)
   have hwl2:=HWL.out
   clear hown hle hwl HB1
   go_wp2
   go_loopw [38] (fun s wr=>∃ k:Nat,k<=ds.length/\s=.int .i64 k/\Hid (OutAt wr W2.heap.size (W2.heap.size+1) W2.heap.size (normTo was k))/\Hid (Below W2.heap.size W2 wr)) (fun s _=>ds.length - (intOf s).toNat)
   case atStart=>exact ⟨0,by omega,rfl,by rw [H02.out,HWL.out];exact OM,hD ((bA _).alloc (by simp) _)⟩
   case round =>
    clear OM
    obtain ⟨k,hk,rfl,HOq,HBq⟩:=hrel
    by_cases hlt:k<ds.length
    ·have hkw:k<was.length:=by omega
     obtain ⟨b,off,ao,cap,he,q1,q2,hnq,hc,hrg⟩:=HWA.out.get k hkw
     clear hnq
     simp only [Option.some.injEq,Addr.mk.injEq,and_true] at he
     obtain ⟨rfl,rfl⟩:=he
     rw [Nat.zero_add] at hc
     have j1:(k:Int)<ds.length:=by omega
     have hwm:=HW2.out was[k] (List.getElem_mem hkw)
     have hnn:=HNN.out was[k] (List.getElem_mem hkw)
     have CC:Hid (∀ W,Below W2.heap.size W2 W->Calls Tryz.prog 90 #[.slice ao was[k].length cap] W (RetN was[k] W)):=fun W h=>clone_n _ was[k] W (hrg.below h) (by omega)
     have hst:=HST2.out k hkw
     rw [hnn] at hst
     have HSTk:=hD hst
     have hnl:=HNL2.out k (by omega)
     have hsh:=normTo_short was k
     clear hrg hnn hst
     generalize was[k]=d at *
     obtain ⟨u5,v5,_,_,_,hgl,hco,hfo,hrr⟩:=HOq.out.own.get' k (by omega)
     clear hrr
     have hb0:=HOq.out.box.c0
     rw [hnl,hwl2] at hb0
     have HR:Hid (∀ W,Below wr.heap.size wr W->W.cell? ⟨W2.heap.size+1,0,none⟩=some (.slice (some ⟨W2.heap.size,0,none⟩) ds.length ds.length)/\W.cell? ⟨BO,k,none⟩=some (.slice ao d.length cap)/\W.cell? ⟨W2.heap.size,k,none⟩=some (.slice u5 (normTo was k)[k].length v5)/\W.frozen? ⟨W2.heap.size,k,none⟩=false):=fun W h =>
      ⟨(h.cell (p:=⟨W2.heap.size+1,0,none⟩) HOq.out.box.lt).trans hb0,((bT HBq.out h).cell (p:=⟨BO,k,none⟩) hbo).trans hc,(h.cell (p:=⟨W2.heap.size,k,none⟩) hgl).trans hco,(h.frozen (p:=⟨W2.heap.size,k,none⟩) hgl).trans hfo⟩
     clear hc hb0 hco hfo
     generalize (normTo was k)[k].length=ol at *
     have HSH:=hD hsh
     have HNLk:=hD hnl
     have HWL2:=hD hwl2
     clear hsh hnl hwl2
     obtain ⟨y0,y1,y2,y3⟩:=HR.out wr (Below.refl _ _)
     go_wp2
     go_region_with ((go_at_call 90;(with_reducible refine (CC.out _ ?_).mono ?_);(·exact HBq.out.drew);rintro e W6 ⟨a6,c6,rfl,r6,b6,n6⟩;have N6:=hD n6;clear n6;have bw6:Below wr.heap.size wr W6:=Below.trans ((Below.refl _ wr).drew) b6;obtain ⟨y4,y5,y6,y7⟩:=HR.out W6 bw6;have R6:=hD r6;have B6:=hD bw6;clear b6 r6 bw6))
     all_goals
      go_wp2
      refine ⟨⟨k+1,by omega,by go_num,?_,hD ((bT HBq.out B6.out).setCell (p:=⟨W2.heap.size,k,none⟩) (rN _) _)⟩,by simp [intOf];omega⟩
      have ho6:=HOq.out.below B6.out
      have hnl:=HNLk.out
      have hwl2:=HWL2.out
      rw [HSTk.out]
      refine ⟨?_,?_,ho6.ne,ho6.low,ho6.gl,?_,?_⟩
      ·rw [List.length_set];exact DsOwn.set ho6.own k (by omega) R6.out
      ·rw [List.length_set];exact ho6.box.far (a:=⟨W2.heap.size,k,none⟩) (by dsimp only;omega) _
      ·intro x hx
       rcases List.mem_or_eq_of_mem_set hx with hx | rfl
       ·exact HSH.out x hx
       ·omega
      ·intro j hj u hu b e
       by_cases hjn:j=k
       ·subst hjn
        rw [World.cell?_setCell_same _ _ _ y6] at hu
        injection hu with hu
        subst hu
        exact Nat.le_trans HBq.out.size (N6.out b e)
       ·rw [World.cell?_setCell_other _ _ _ _ (fun he=>hjn (by injection he with _ h2 _;exact h2.symm))] at hu
        rw [List.length_set] at hj
        exact ho6.new j hj u hu b e
    ·obtain rfl:k=ds.length:=by omega
     rw [<- hwl2,HA2.out] at HOq
     clear HST2 HNL2 H02 HA2 HW2 HNN hlt hk hmk
     have BWq:=hD (bT BW2.out HBq.out)
     cases ANY:anyNil vars was with
     | true =>
      have HRES:=hD (EN.out ANY)
      clear EN ENo EG ES CNR
      go_wp2_with (first
       | (go_at_call 156;(with_reducible refine (CV.out _ BWq.out).mono ?_);rintro e W5 ⟨a5,c5,rfl,i5,b5⟩;have B5:Hid (Below W2.heap.size W2 W5):=bT HBq.out b5;have O5:=hD (HOq.out.below b5);have I5:=hD i5;have CE5:=hD (containsEmp_any W2.heap.size (W2.heap.size+1) W2.heap.size was _ vars W5 O5.out I5.out HAL.out HVV.out);rw [empty_any,ANY] at CE5;clear b5 i5)
       | (go_at_call 41;(with_reducible refine CE5.out.mono ?_);rintro e w' ⟨rfl,rfl⟩))
      go_ret2
      exact ⟨bT BW2.out B5.out,.inr ⟨HRES.out,rfl⟩⟩
     | false =>
      have EN1:=hD (ENo.out ANY)
      have EG1:=hD (fun ks=>EG.out ks ANY)
      have ES1:=hD (fun ks=>ES.out ks ANY)
      clear EN ENo EG ES
      have CN5:Hid (∀ W5,Below W2.heap.size W2 W5->OutAt W5 W2.heap.size (W2.heap.size+1) W2.heap.size was->Calls Tryz.prog 155 #[.agg #[.slice a0 coef.length c0,.slice a1 vars.length c1,.int .i64 rel,.int .i64 c],.slice (some ⟨BO,0,none⟩) ds.length ds.length,.func (.func 92) #[] #[.pointer (some ⟨W2.heap.size+1,0,none⟩)]] W5 (NarR NK W2.heap.size (W2.heap.size+1) W2.heap.size was W5)):=fun W5 hb ho=>CNR.out W2 W5 _ _ _ BW2.out HWA.out hb ho
      cases NK with
      | none =>
       have HRES:=hD (EN1.out rfl)
       have CN6:Hid (∀ W5,Below W2.heap.size W2 W5->OutAt W5 W2.heap.size (W2.heap.size+1) W2.heap.size was->Calls Tryz.prog 155 #[.agg #[.slice a0 coef.length c0,.slice a1 vars.length c1,.int .i64 rel,.int .i64 c],.slice (some ⟨BO,0,none⟩) ds.length ds.length,.func (.func 92) #[] #[.pointer (some ⟨W2.heap.size+1,0,none⟩)]] W5 fun e W'=>e=.returned (.bool false)/\Below W2.heap.size W5 W'):=fun W5 hb ho =>
        (CN5.out W5 hb ho).mono fun e W' h=>by
         obtain ⟨hb1,_,⟨ks,hk,_⟩ | ⟨_,he⟩⟩:=h
         ·cases hk
         ·exact ⟨he,hb1⟩
       clear CN5 CNR EN1 EG1 ES1
       go_wp2_with (first
        | (go_at_call 156;(with_reducible refine (CV.out _ BWq.out).mono ?_);rintro e W5 ⟨a5,c5,rfl,i5,b5⟩;have B5:Hid (Below W2.heap.size W2 W5):=bT HBq.out b5;have O5:=hD (HOq.out.below b5);have I5:=hD i5;have CE5:=hD (containsEmp_any W2.heap.size (W2.heap.size+1) W2.heap.size was _ vars W5 O5.out I5.out HAL.out HVV.out);rw [empty_any,ANY] at CE5;clear b5 i5)
        | (go_at_call 41;(with_reducible refine CE5.out.mono ?_);rintro e w' ⟨rfl,rfl⟩)
        | (go_at_call 155;(with_reducible refine (CN6.out _ B5.out O5.out).mono ?_);rintro e W7 ⟨rfl,b7⟩))
       go_ret2
       exact ⟨BW2.out.trans ((B5.out.trans b7).mono BW2.out.size),.inr ⟨HRES.out,rfl⟩⟩
      | some ks =>
       have CN6:Hid (∀ W5,Below W2.heap.size W2 W5->OutAt W5 W2.heap.size (W2.heap.size+1) W2.heap.size was->Calls Tryz.prog 155 #[.agg #[.slice a0 coef.length c0,.slice a1 vars.length c1,.int .i64 rel,.int .i64 c],.slice (some ⟨BO,0,none⟩) ds.length ds.length,.func (.func 92) #[] #[.pointer (some ⟨W2.heap.size+1,0,none⟩)]] W5 fun e W'=>e=.returned (.bool true)/\Below W2.heap.size W5 W'/\Stay W5 W' W2.heap.size/\OutAt W' W2.heap.size (W2.heap.size+1) W2.heap.size (keepsL ks was)):=fun W5 hb ho =>
        (CN5.out W5 hb ho).mono fun e W' h=>by
         obtain ⟨hb1,hs1,⟨ks',hk,he,ho'⟩ | ⟨hk,_⟩⟩:=h
         ·injection hk with hk;subst hk;exact ⟨he,hb1,hs1,ho'⟩
         ·cases hk
       have EG2:=hD (EG1.out ks rfl)
       have ES2:=hD (ES1.out ks rfl)
       have HKL:Hid ((keepsL ks was).length=was.length):=keepsL_len ks was
       clear CN5 CNR EN1 EG1 ES1
       generalize keepsL ks was=fin at *
       have HV2:Hid (∀ v∈vars,0<=v/\v.toNat<fin.length):=fun v hv=>by rw [HKL.out];exact HVV.out v hv
       cases ANY2:anyNil vars fin with
       | true =>
        have HRES:=hD (EG2.out ANY2)
        clear EG2 ES2
        go_wp2_with (first
         | (go_at_call 156;(with_reducible refine (CV.out _ BWq.out).mono ?_);rintro e W5 ⟨a5,c5,rfl,i5,b5⟩;have B5:Hid (Below W2.heap.size W2 W5):=bT HBq.out b5;have O5:=hD (HOq.out.below b5);have I5:=hD i5;have CE5:=hD (containsEmp_any W2.heap.size (W2.heap.size+1) W2.heap.size was _ vars W5 O5.out I5.out HAL.out HVV.out);rw [empty_any,ANY] at CE5;clear b5 i5)
         | (go_at_call 41;(with_reducible refine CE5.out.mono ?_);rintro e w' ⟨rfl,rfl⟩)
         | (go_at_call 155;(with_reducible refine (CN6.out _ B5.out O5.out).mono ?_);rintro e W7 ⟨rfl,b7,s7,o7⟩;have CE7:=hD (containsEmp_any W2.heap.size (W2.heap.size+1) W2.heap.size fin _ vars W7 o7 (I5.out.stayO O5.out s7) HAL.out HV2.out);rw [empty_any,ANY2] at CE7;clear CE5)
         | (go_at_call 41;(with_reducible refine CE7.out.mono ?_);rintro e w' ⟨rfl,rfl⟩))
        go_ret2
        exact ⟨BW2.out.trans ((B5.out.trans b7).mono BW2.out.size),.inr ⟨HRES.out,rfl⟩⟩
       | false =>
        have HRES:=hD (ES2.out ANY2)
        clear EG2 ES2
        go_wp2_with (first
         | (go_at_call 156;(with_reducible refine (CV.out _ BWq.out).mono ?_);rintro e W5 ⟨a5,c5,rfl,i5,b5⟩;have B5:Hid (Below W2.heap.size W2 W5):=bT HBq.out b5;have O5:=hD (HOq.out.below b5);have I5:=hD i5;have CE5:=hD (containsEmp_any W2.heap.size (W2.heap.size+1) W2.heap.size was _ vars W5 O5.out I5.out HAL.out HVV.out);rw [empty_any,ANY] at CE5;clear b5 i5)
         | (go_at_call 41;(with_reducible refine CE5.out.mono ?_);rintro e w' ⟨rfl,rfl⟩)
         | (go_at_call 155;(with_reducible refine (CN6.out _ B5.out O5.out).mono ?_);rintro e W7 ⟨rfl,b7,s7,o7⟩;have CE7:=hD (containsEmp_any W2.heap.size (W2.heap.size+1) W2.heap.size fin _ vars W7 o7 (I5.out.stayO O5.out s7) HAL.out HV2.out);rw [empty_any,ANY2] at CE7;have hbx7:=o7.box.c0;clear CE5)
         | (go_at_call 41;(with_reducible refine CE7.out.mono ?_);rintro e w' ⟨rfl,rfl⟩))
        go_ret2
        exact ⟨BW2.out.trans ((B5.out.trans b7).mono BW2.out.size),.inl ⟨fin,W2.heap.size,W2.heap.size+1,W2.heap.size,HRES.out,rfl,BW2.out.size,o7⟩⟩
end
end Go.Proofs.YtaekdgikgbdnnaaGreat
