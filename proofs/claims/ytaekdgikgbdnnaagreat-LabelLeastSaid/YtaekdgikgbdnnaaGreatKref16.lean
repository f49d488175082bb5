/-
  The reference's Minimize, walked.
-/
import Derived.Test.YtaekdgikgbdnnaaGreatKref15
import Derived.Deep.RegionHeld3
namespace Go.Proofs.YtaekdgikgbdnnaaGreat
section
open Go.RowKit
def MinG (E:Int) (x:List Int) (w:World) (e:Ending) (w':World):Prop :=
 ∃ ao cap,e=.returned (.tuple #[.slice ao x.length cap,.int .i64 E])/\IsAt w' (.slice ao x.length cap) x/\Below w.heap.size w w'
def minE (r:Option (List Int)×Bool):Int:=if r.2=true then 34 else 0
def minX (r:Option (List Int)×Bool):List Int:=if r.2=true then [] else r.1.getD []
def lastI (c:Int) (vars:List Int):Nat->Int
 | 0=>-1
 | k+1=>if vars.getD k 0=c then (k:Int) else lastI c vars k
theorem lastI_spec {c:Int} {vars:List Int}:∀ (k:Nat),k<=vars.length->(lastI c vars k=-1/\∀ j,(hj:j<vars.length)->j<k->vars[j]≠c)\/∃ i:Nat,∃ hi:i<vars.length,lastI c vars k=(i:Int)/\vars[i]=c
 | 0,_=>.inl ⟨rfl,fun j _ h=>by omega⟩
 | k+1,hk=>by
  have hkl:k<vars.length:=by omega
  have hg:vars.getD k 0=vars[k]:=by rw [List.getD_eq_getElem?_getD,List.getElem?_eq_getElem hkl];rfl
  unfold lastI
  by_cases h:vars.getD k 0=c
  ·rw [if_pos h]
   exact .inr ⟨k,by omega,rfl,by rw [<- hg];exact h⟩
  ·rw [if_neg h]
   rcases lastI_spec (c:=c) (vars:=vars) k (by omega) with ⟨e,hn⟩ | h2
   ·refine .inl ⟨e,fun j hj hjk=>?_⟩
    rcases Nat.lt_or_ge j k with g | g
    ·exact hn j hj g
    ·obtain rfl:j=k:=by omega
     rw [<- hg];exact h
   ·exact .inr h2
theorem findR_over1 {ps:List PL} {vars:List Int} {o:SOpt}:∀ (k:Nat) (st:List Ds),(findR ps vars o 1 k st).2.2=true->(findR ps vars o 1 k st).1=[]
 | k,[]=>by cases k <;> simp [findR]
 | 0,D::st=>by simp [findR]
 | k+1,D::st=>by
  rw [findR]
  cases theFix ps D with
  | none=>exact findR_over1 k st
  | some now =>
   dsimp only
   cases chooseL now vars o.sel o.ws vars.length with
   | none=>dsimp only;cases k <;> cases st <;> simp [findR]
   | some i=>exact findR_over1 k _
theorem lit_rg (W:World) (a b c:Int) (T:TypeId) (h:b=c):RgAt (W.alloc (.cells #[.int .i64 a,.int .i64 b] T)).drew (.slice (some ⟨W.heap.size,0,none⟩) 1 1) [(a,c)]:=by
 subst h
 exact rgAt_one W a b T
set_option maxRecDepth 100000
set_option maxHeartbeats 1600000
theorem refMin_bad (vds vps vv vw:Value) (sel ord br:Int) (ds:Ds) (ps:List PL) (vars ws:List Int) (cost nodes:Int) (w:World) (hd:DsAt w vds ds) (hp:PsAt w vps ps) (hv:IsAt w vv vars) (hw:IsAt w vw ws)
  (hok:∀ p∈ps,p.ok) (hdl:ds.length<=4096) (hbad:begChk sel ord br ws.length ds.length ps vars 1 nodes≠0) :
  Calls Tryz.prog 22 #[vds,vps,vv,.int .i64 cost,.agg #[.int .i64 sel,.int .i64 ord,.int .i64 br,vw],.int .i64 nodes] w (MinG (begChk sel ord br ws.length ds.length ps vars 1 nodes) [] w):=by
 obtain ⟨a0,c0,rfl,_⟩:=hd.shape
 obtain ⟨a1,c1,rfl,_⟩:=hp.shape
 obtain ⟨a2,c2,rfl,_⟩:=hv.shape'
 obtain ⟨a3,c3,rfl,_⟩:=hw.shape'
 have hz0:=boxZ w (.int .i64 sel) (.int .i64 ord) (.int .i64 br) (.slice a3 ws.length c3) 28
 have CW:=hD (wrong_c _ _ _ _ sel ord br ds ps vars ws 1 nodes _ (hd.below hz0) (hp.below hz0) (hv.below hz0) (hw.below hz0) hok hdl)
 have hx0:=BoxL.mk' w #[.int .i64 sel,.int .i64 ord,.int .i64 br,.slice a3 ws.length c3] 28
 obtain ⟨l0,_⟩:=hx0.get 0 rfl
 obtain ⟨l1,_⟩:=hx0.get 1 rfl
 obtain ⟨l2,_⟩:=hx0.get 2 rfl
 obtain ⟨l3,_⟩:=hx0.get 3 rfl
 have HZ:=hD hz0
 have hne:(begChk sel ord br ws.length ds.length ps vars 1 nodes != 0)=true:=by simpa using hbad
 clear hd hp hv hw hz0 hx0 hbad
 generalize begChk sel ord br ws.length ds.length ps vars 1 nodes=kk at *
 go_enter Tryz.func22,Tryz.ntmps22
 go_wp2_with (go_at_call 30;(with_reducible refine CW.out.mono ?_);rintro e W1 ⟨rfl,b1⟩;have B1:=hD (bT HZ.out b1);clear b1)
 go_ret2
 exact ⟨none,0,rfl,SlAt.nil,B1.out⟩
set_option maxRecDepth 1000000
set_option maxHeartbeats 6400000
theorem refMin_ok (vds vps vv vw:Value) (o:SOpt) (ds:Ds) (ps:List PL) (vars:List Int) (cost:Int) (nodes:Nat) (w:World) (hd:DsAt w vds ds) (hp:PsAt w vps ps) (hv:IsAt w vv vars) (hw:IsAt w vw o.ws)
  (hin:FixIn ds ps) (hgood:begChk o.sel o.ord o.br o.ws.length ds.length ps vars 1 nodes=0) (hlc:labChk o.sel o.ord o.br o.ws.length=0) (hvl:vars.length<=64) (hvi:∀ v∈vars,0<=v/\v.toNat<ds.length) (h4:nodes<=10000) :
  Calls Tryz.prog 22 #[vds,vps,vv,.int .i64 cost,.agg #[.int .i64 o.sel,.int .i64 o.ord,.int .i64 o.br,vw],.int .i64 nodes] w fun e w' =>
   (cost ∉ vars/\MinG 160 [] w e w')\/∃ (i c:Nat) (hi:i<vars.length),vars[i]=cost/\cost=(c:Int)/\MinG (minE (minP ps vars o i c ds 403 nodes ds none)) (minX (minP ps vars o i c ds 403 nodes ds none)) w e w':=by
 obtain ⟨a0,c0,rfl,_⟩:=hd.shape
 obtain ⟨a1,c1,rfl,_⟩:=hp.shape
 obtain ⟨a2,c2,rfl,_⟩:=hv.shape'
 obtain ⟨a3,c3,rfl,_⟩:=hw.shape'
 have hz0:=boxZ w (.int .i64 o.sel) (.int .i64 o.ord) (.int .i64 o.br) (.slice a3 o.ws.length c3) 28
 have CW0:=wrong_c _ _ _ _ o.sel o.ord o.br ds ps vars o.ws 1 nodes _ (hd.below hz0) (hp.below hz0) (hv.below hz0) (hw.below hz0) hin.ok (by have:=hin.n;omega)
 rw [hgood] at CW0
 have CW:=hD CW0
 have hx0:=BoxL.mk' w #[.int .i64 o.sel,.int .i64 o.ord,.int .i64 o.br,.slice a3 o.ws.length c3] 28
 obtain ⟨l0,_⟩:=hx0.get 0 rfl
 obtain ⟨l1,_⟩:=hx0.get 1 rfl
 obtain ⟨l2,_⟩:=hx0.get 2 rfl
 obtain ⟨l3,_⟩:=hx0.get 3 rfl
 have HC:Hid (∀ W,Below (w.heap.size+1) (w.alloc (.cells #[.int .i64 o.sel,.int .i64 o.ord,.int .i64 o.br,.slice a3 o.ws.length c3] 28)) W->W.cell? ⟨w.heap.size,0,none⟩=some (.int .i64 o.sel)/\W.cell? ⟨w.heap.size,1,none⟩=some (.int .i64 o.ord)/\W.cell? ⟨w.heap.size,2,none⟩=some (.int .i64 o.br)/\W.cell? ⟨w.heap.size,3,none⟩=some (.slice a3 o.ws.length c3)):=fun W h=>by
  have e:=hx0.below (w':=W) (by simpa using h) (by simp)
  exact ⟨(e.get 0 rfl).1,(e.get 1 rfl).1,(e.get 2 rfl).1,(e.get 3 rfl).1⟩
 have HZ:=hD hz0
 have HD:=hD hd
 have HP:=hD hp
 have HV:=hD hv
 have HW:=hD hw
 have HIN:=hD hin
 have HLC:=hD hlc
 have HVI:=hD hvi
 clear hd hp hv hw hz0 hx0 CW0 hin hgood hlc hvi
 go_enter Tryz.func22,Tryz.ntmps22
 go_upto_region 4 with (go_at_call 30;(with_reducible refine CW.out.mono ?_);rintro e W1 ⟨rfl,b1⟩;have B1:=hD (bT HZ.out b1);have P1:=hD (b1.mono (B:=_) (B':=w.heap.size+1) (by simp));clear b1)
 clear CW l0 l1 l2 l3
 have HV1:=hD (HV.out.below B1.out)
 go_wp2
 go_loop [15,16] (fun a s=>∃ k:Nat,k<=vars.length/\s=.int .i64 k/\a=.int .i64 (lastI cost vars k)) (fun _ s=>vars.length - (intOf s).toNat)
 case atStart=>exact ⟨0,by omega,rfl,rfl⟩
 case round =>
  obtain ⟨k,hk,rfl,rfl⟩:=hrel
  by_cases hlt:k<vars.length
  ·obtain ⟨bv,ov,rfl,_,_,xv⟩:=IsAt.getR HV1.out k hlt
   have j1:(k:Int)<vars.length:=by omega
   have hst:lastI cost vars (k+1)=if vars[k]=cost then (k:Int) else lastI cost vars k:=by
    have hg:vars.getD k 0=vars[k]:=by rw [List.getD_eq_getElem?_getD,List.getElem?_eq_getElem hlt];rfl
    rw [lastI,hg]
   have HST:=hD hst
   clear hst
   generalize vars[k]=v at *
   by_cases hvc:v=cost
   ·have hb:(v==cost)=true:=by simpa using hvc
    have H2:Hid (lastI cost vars (k+1)=k):=by show _=_;rw [HST.out,if_pos hvc]
    clear HST hvc
    go_wp2
    go_round
    case rel=>exact ⟨k+1,by omega,by go_num,by rw [H2.out]⟩
    case measure=>simp [intOf];omega
   ·have hb:(v==cost)=false:=by simpa using hvc
    have H2:Hid (lastI cost vars (k+1)=lastI cost vars k):=by show _=_;rw [HST.out,if_neg hvc]
    clear HST hvc
    go_wp2
    go_round
    case rel=>exact ⟨k+1,by omega,by go_num,by rw [H2.out]⟩
    case measure=>simp [intOf];omega
  ·obtain rfl:k=vars.length:=by omega
   rcases lastI_spec (c:=cost) (vars:=vars) vars.length (rN _) with ⟨hl,hno⟩ | ⟨i,hi,hl,hic⟩
   ·have HNO:Hid (cost ∉ vars):=fun hm=>by
     obtain ⟨j,hj,e⟩:=List.getElem_of_mem hm
     exact hno j hj hj e
    rw [hl]
    clear hl hno
    go_wp2
    go_ret2
    exact .inl ⟨HNO.out,none,0,rfl,SlAt.nil,B1.out⟩
   ·rw [hl]
    have hci:=HVI.out _ (List.getElem_mem hi)
    rw [hic] at hci
    obtain ⟨c,rfl⟩:=Int.eq_ofNat_of_zero_le hci.1
    have hcl:c<ds.length:=by simpa using hci.2
    have hi64:i<=64:=by omega
    obtain ⟨R,hR⟩:∃ R,R=minP ps vars o i c ds 403 nodes ds none:=⟨_,rfl⟩
    have HR:=hD hR.symm
    have HIC:=hD hic
    obtain ⟨b0,off0,ad,cd,rfl,_,hlt0,hq0,hcel0,hrg0⟩:=HD.out.get c hcl
    clear hq0
    have HGD:Hid (ds.getD c []=ds[c]):=by show _=_;rw [List.getD_eq_getElem?_getD,List.getElem?_eq_getElem hcl];rfl
    have HDC:Hid (∀ W,Below w.heap.size w W->W.cell? ⟨b0,off0+c,none⟩=some (.slice ad ds[c].length cd)/\RgAt W (.slice ad ds[c].length cd) ds[c]):=fun W h=>⟨(h.cell (p:=⟨b0,off0+c,none⟩) hlt0).trans hcel0,hrg0.below h⟩
    have hdl:ds[c].length<=4096:=HIN.out.dm _ (List.getElem_mem hcl)
    obtain ⟨dl,hdle⟩:∃ dl,dl=ds[c]:=⟨_,rfl⟩
    rw [<- hdle] at HGD HDC hdl
    have hb1:Hid (Below W1.heap.size W1 (W1.alloc (.cells #[] 3))):=bA _
    have hbe:Hid (IsAt (W1.alloc (.cells #[] 3)) (.slice (some ⟨W1.heap.size,0,none⟩) 0 0) []):=SlAt.of_own (World.ownsRow_made W1 #[] 0 (e:=3) (size:=1) (rN _) (by decide) rfl)
    clear hl hic hci hR hdle hcel0 hrg0 HV1
    go_wp2
    go_loopw [5,17,18,19,20] (fun nd bs dv r _ wr=>∃ (q k:Nat) (now:Ds) (best:Option (List Int)),q<=403/\r=.int .i64 q/\nd=.int .i64 k/\k<=10000/\Hid (Below W1.heap.size W1 wr)/\Hid (DsAt wr dv now)/\Hid (FixIn now ps)/\Hid (now.length=ds.length)/\Hid (IsAt wr bs (best.getD []))/\Hid (minP ps vars o i c ds (403 - q) k now best=R)) (fun _ _ _ r _ _=>403 - (intOf r).toNat)
    case atStart=>exact ⟨0,nodes,ds,none,by omega,rfl,rfl,h4,hb1,hD (HD.out.below (bT B1.out hb1.out)),HIN,hD rfl,hbe,HR⟩
    case round =>
     clear hb1 hbe
     obtain ⟨q,k,now,best,hq,rfl,rfl,hk,HB,HDN,HFI,HNL,HBE,HM⟩:=hrel
     have hle:=HB.out.size
     have HBW:=hD (bT B1.out HB.out)
     obtain ⟨an,cn,rfl,_⟩:=HDN.out.shape
     obtain ⟨ab,cb,rfl,_⟩:=SlAt.shape HBE.out
     by_cases hlt:q<403
     ·have j0:(q:Int)<=402:=by omega
      obtain ⟨m,hm⟩:∃ m,403 - q=m+1:=⟨402 - q,by omega⟩
      have hm2:m=403 - (q+1):=by omega
      rw [hm] at HM
      obtain ⟨m0,m1,m2,m3⟩:=HC.out wr (P1.out.trans (HB.out.mono (by have:=P1.out.size;simpa using this)))
      have CN:Hid (Calls Tryz.prog 31 #[.pointer (some ⟨wr.heap.size,0,none⟩),.slice an now.length cn] (wr.alloc (.cells #[.slice a1 ps.length c1,.slice a2 vars.length c2,.int .i64 o.sel,.int .i64 o.ord,.int .i64 o.br,.slice a3 o.ws.length c3,.int .i64 1,.int .i64 k,.slice none 0 0,.bool false] 71))
        fun e W'=>(∃ v,e=.returned v)/\∃ (L:List (List Int)) (n:Nat) (ov:Bool) (ao:Option Addr) (cap:Nat),findR ps vars o 1 k [now]=(L,n,ov)/\NdW wr.heap.size (.slice a1 ps.length c1) (.slice a2 vars.length c2) o (.slice a3 o.ws.length c3) 1 W' n ov (.slice ao L.length cap) L/\Below wr.heap.size wr W') :=
       search_c _ _ _ _ o now ps vars 1 k wr HDN.out (HP.out.below HBW.out) (HV.out.below HBW.out) (HW.out.below HBW.out) HFI.out HLC.out hvl (by rw [HNL.out];exact HVI.out) (by decide) hk _
      clear hm
      go_upto_region 19 with (go_at_call 31;(with_reducible refine CN.out.mono ?_);rintro e W2 ⟨⟨rv,rfl⟩,L,n,ov,ao,cap,hf,hn,b2⟩;have HF:=hD hf;have HN:=hD hn;have B2:=hD b2;clear hf hn b2)
      clear CN m0 m1 m2 m3
      have x7:=HN.out.c7
      have x8:=HN.out.c8
      have x9:=HN.out.c9
      have B2w:=hD (bT HBW.out B2.out)
      cases ov with
      | true =>
       have hl0:L=[]:=by
        have:=findR_over1 (ps:=ps) (vars:=vars) (o:=o) k [now]
        rw [HF.out] at this
        exact this rfl
       subst hl0
       have HRR:Hid (R=(best,true)):=by show _=_;rw [<- HM.out,minP_stop HF.out]
       clear HM x7 x8
       go_wp2
       go_ret2
       exact .inr ⟨i,c,hi,HIC.out,rfl,by rw [HR.out,HRR.out];exact ⟨none,0,rfl,SlAt.nil,B2w.out⟩⟩
      | false =>
       rcases L with _ | ⟨x,L⟩
       ·have HRR:Hid (R=(best,false)):=by show _=_;rw [<- HM.out,minP_stop HF.out]
        have HB2:=hD (HBE.out.below B2.out)
        clear HM
        go_wp2
        go_ret2
        exact .inr ⟨i,c,hi,HIC.out,rfl,by rw [HR.out,HRR.out];exact ⟨ab,cb,rfl,HB2.out,B2w.out⟩⟩
       ·obtain rfl:L=[]:=by
         have:=findR_list (ps:=ps) (vars:=vars) (o:=o) k [now]
         rw [HF.out] at this
         dsimp only at this
         rw [List.length_cons] at this
         exact List.length_eq_zero_iff.1 (by omega)
        obtain ⟨_,hord,hbr⟩:=labChk_sound HLC.out
        obtain ⟨z,hz⟩:∃ z,z=x.getD i 0:=⟨_,rfl⟩
        have hxl:x.length=vars.length:=by
         obtain ⟨f,rfl⟩:=findR_map (ps:=ps) (vars:=vars) (o:=o) k 1 [now] x (by rw [HF.out];exact List.mem_cons_self)
         simp
        have hzb:-200<=z/\z<=200:=by
         obtain ⟨E,hE,hx⟩:=findR_in (ps:=ps) (n:=ds.length) hord hbr HVI.out hi HIC.out k 1 [now] (fun E hE=>by rw [List.mem_singleton.1 hE];exact HNL.out) x (by rw [HF.out];exact List.mem_cons_self)
         rw [hz]
         exact memL_bounds (norm_normal _) hx
        have hzx:x[i]'(by omega)=z:=by rw [hz,List.getD_eq_getElem?_getD,List.getElem?_eq_getElem (by omega)];rfl
        have HRR:Hid (minP ps vars o i c ds m n (lessD ds c z) (some x)=R):=by show _=_;rw [<- HM.out,minP_more HF.out,<- hz]
        have hnk:n<=k:=by
         have:=(findR_less ps vars o k 1 [now]).1
         rw [HF.out] at this
         exact this
        obtain ⟨bo,oo,ax,cx,rfl,_,_,xo,hix⟩:=HN.out.out.from.at.get 0 (by simp)
        have hix:IsAt W2 (.slice ax x.length cx) x:=hix
        have xo:W2.cell? ⟨bo,oo,none⟩=some (.slice ax x.length cx):=by simpa using xo
        obtain ⟨bx,ox,rfl,qx1,qx2,xx⟩:=IsAt.getR hix i (by omega)
        rw [hzx] at xx
        have HIX:=hD hix
        obtain ⟨hd1,_⟩:=HDC.out W2 B2w.out
        have j1:(i:Int)<x.length:=by omega
        have j2:(c:Int)<ds.length:=by omega
        have hml:(meetL dl [(-200,z - 1)]).length<=4096:=Nat.le_trans (normal_len (canon_normal _)) (by decide)
        have CM:Hid (∀ W' v,Below W2.heap.size W2 W'->RgAt W' v [(-200,z - 1)]->Calls Tryz.prog 36 #[.slice ad dl.length cd,v] W' fun e W3=>∃ am cm,e=.returned (.slice am (meetL dl [(-200,z - 1)]).length cm)/\RgAt W3 (.slice am (meetL dl [(-200,z - 1)]).length cm) (meetL dl [(-200,z - 1)])/\Below W2.heap.size W2 W3):=fun W' v hb hr =>
         (refMeet_c _ v dl [(-200,z - 1)] W' (HDC.out W' (bT B2w.out hb)).2 hr hdl (by simp)).mono fun e W3 ⟨am,cm,h1,h2,h3⟩=>⟨am,cm,h1,h2,bT hb h3⟩
        have CWI:Hid (∀ W' v,Below W2.heap.size W2 W'->RgAt W' v (meetL dl [(-200,z - 1)])->Calls Tryz.prog 35 #[.slice (some ⟨b0,off0,none⟩) ds.length c0,.int .i64 c,v] W' fun e W4=>∃ g cg,e=.returned (.slice (some ⟨g,0,none⟩) ds.length cg)/\DsAt W4 (.slice (some ⟨g,0,none⟩) ds.length cg) (lessD ds c z)/\Below W2.heap.size W2 W4):=fun W' v hb hr=>by
         have hbw:=bT B2w.out hb
         have hq:DsQ (fun _=>True) W' (.slice (some ⟨b0,off0,none⟩) ds.length c0) ds:=DsQ.of_input HD.out hbw (fun _ _=>trivial)
         have hl:lessD ds c z=ds.set c (meetL dl [(-200,z - 1)]):=by unfold lessD;rw [HGD.out]
         rw [hl]
         exact (refWith_c (fun _=>True) _ c v ds _ W' hq ⟨hr,fun _ _ _=>trivial⟩ hcl (by have:=HIN.out.n;omega)).mono fun e W4 ⟨g,cg,us,h1,h2,h3⟩=>⟨g,cg,h1,by have:=(h2.q (fun _ _=>trivial)).at;exact this,bT hb h3⟩
        have HSW:Hid (∀ W',Below W2.heap.size W2 W'->W'.cell? ⟨b0,off0+c,none⟩=some (.slice ad dl.length cd)/\W'.cell? ⟨bx,ox+i,none⟩=some (.int .i64 z)):=fun W' h =>
         ⟨(HDC.out W' (bT B2w.out h)).1,(h.cell (p:=⟨bx,ox+i,none⟩) qx2).trans xx⟩
        obtain ⟨hz1,hz2⟩:=hzb
        have ew:IntKind.i64.wrap (z - 1)=z - 1:=wrap_small (by omega)
        have HXL:=hD hxl
        have HZN:=hD (HNL.out)
        have HM2:=hD hm2
        clear hz hzx hix HM HDN HFI HNL HBE HF hord hbr hxl hm2
        go_wp2
        go_region_held3 (fun W'=>W'.cell? ⟨b0,off0+c,none⟩=some (.slice ad dl.length cd)/\W'.cell? ⟨bx,ox+i,none⟩=some (.int .i64 z)) ((first | exact HSW.out _ Q4.out | exact HSW.out _ Q3.out | (refine HSW.out _ ?_;go_grown)))
         (first
          | (go_at_call 36;refine (CM.out _ _ ?_ ?_).mono ?_;(·go_grown);(·exact lit_rg _ _ _ _ _ rfl);rintro e W3 ⟨am,cm,rfl,rm,bm⟩;have Q3:=hD bm;have R3:=hD rm;clear bm rm)
          | (go_at_call 35;(with_reducible refine (CWI.out _ _ Q3.out R3.out).mono ?_);rintro e W4 ⟨g4,c4,rfl,d4,b4⟩;have Q4:=hD b4;have D4:=hD d4;clear b4 d4))
        go_wp2
        exact ⟨⟨q+1,n,lessD ds c z,some x,by omega,by go_num,rfl,by omega,hD ((HB.out.trans (B2.out.mono hle)).trans (Q4.out.mono (Nat.le_trans hle B2.out.size))),D4,hD (HIN.out.less c z),hD (lessD_len ds c z),hD (HIX.out.below Q4.out),by rw [<- HM2.out];exact HRR⟩,by simp [intOf];omega⟩
     ·obtain rfl:q=403:=by omega
      have HRR:Hid (R=(best,false)):=by show _=_;rw [<- HM.out];rfl
      go_wp2
      go_ret2
      exact .inr ⟨i,c,hi,HIC.out,rfl,by rw [HR.out,HRR.out];exact ⟨ab,cb,rfl,HBE.out,HBW.out⟩⟩
end
end Go.Proofs.YtaekdgikgbdnnaaGreat
