/-
  lin.Once, walked.
-/
import Derived.Test.YtaekdgikgbdnnaaGreatKlin3
import Derived.Test.YtaekdgikgbdnnaaGreatKlin4
namespace Go.Proofs.YtaekdgikgbdnnaaGreat
section
open Go.RowKit
theorem Tryz.infoRgs:(Tryz.prog.info? 61).map (fun i=>(i.zero,i.size,i.bytes))=some (some (.slice none 0 0),1,24):=by kernel_rfl
def RetO (r:Option Ds) (w:World) (e:Ending) (w':World):Prop :=
 Below w.heap.size w w'/\((∃ ds ao cap,r=some ds/\e=.returned (.tuple #[.slice ao ds.length cap,.bool true])/\DsAt w' (.slice ao ds.length cap) ds)\/(r=none/\e=.returned (.tuple #[.slice none 0 0,.bool false])))
def RetOn (r:Option Ds) (w:World) (e:Ending) (w':World):Prop :=
 Below w.heap.size w w'/\((∃ ds ao cap,r=some ds/\e=.returned (.tuple #[.slice ao ds.length cap,.bool true])/\DsAt w' (.slice ao ds.length cap) ds/\∀ b,(Value.slice ao ds.length cap).ownBlock=some b->w.heap.size<=b)\/(r=none/\e=.returned (.tuple #[.slice none 0 0,.bool false])))
theorem DsOwn.made (w:World) (n:Nat) (hn:n<=maxLen) (T:TypeId) (hT:T=61):DsOwn (w.alloc (.cells (madeCells #[.slice none 0 0] n) T)) w.heap.size (.slice (some ⟨w.heap.size,0,none⟩) n n) (List.replicate n []):=by
 subst hT
 have h:=World.ownsRow_lit (base:=w.heap.size) w (madeCells #[.slice none 0 0] n) n (e:=61) (size:=1) (rN _) hn (by simp [size_madeCells])
 rw [toList_madeCells_one] at h
 refine ⟨List.replicate n (.slice none 0 0),by simp,by simpa using h,fun j hj=>⟨.slice none 0 0,?_,?_⟩⟩
 ·rw [List.getElem?_replicate,if_pos (by simpa using hj)]
 ·rw [List.getElem_replicate];exact RgAt.nil
theorem DsOwn.get' {w:World} {base g n cap:Nat} {ds:Ds} (h:DsOwn w base (.slice (some ⟨g,0,none⟩) n cap) ds) (j:Nat) (hj:j<ds.length) :
  ∃ ao' cap',base<=g/\n=ds.length/\ds.length<=cap/\g<w.heap.size/\w.cell? ⟨g,j,none⟩=some (.slice ao' ds[j].length cap')/\w.frozen? ⟨g,j,none⟩=false/\RgAt w (.slice ao' ds[j].length cap') ds[j]:=by
 obtain ⟨g',c,ao',c',he,a1,a2,a3,a4,a5,a6⟩:=h.get j hj
 simp only [Value.slice.injEq,Option.some.injEq,Addr.mk.injEq,and_true] at he
 obtain ⟨rfl,rfl,rfl⟩:=he
 exact ⟨ao',c',a1,rfl,a2,a3,a4,a5,a6⟩
theorem DsOwn.cellAt {w:World} {base g n cap:Nat} {ds:Ds} (h:DsOwn w base (.slice (some ⟨g,0,none⟩) n cap) ds) (j:Nat) (hj:j<ds.length):∃ u,w.cell? ⟨g,j,none⟩=some u/\w.frozen? ⟨g,j,none⟩=false:=by
 obtain ⟨_,_,_,_,_,_,a,b,_⟩:=h.get' j hj
 exact ⟨_,a,b⟩
theorem mk_rows (n:Nat) (hn:n<=4096) (W:World):(Instr.makeSlice 22 (.int .i64 n) (.int .i64 n)).run Tryz.prog W=.ok (.slice (some ⟨W.heap.size,0,none⟩) n n) (W.alloc (.cells (madeCells #[.slice none 0 0] n) 61)):=by
 obtain ⟨i0,hi,hz0,hz1,hz2⟩:=info_parts Tryz.infoRgs
 have h:=run_make (P:=Tryz.prog) W 22 61 i0 (.slice none 0 0) Tryz.underlying22 hi hz0 .i64 .i64 n n (by omega) (Int.le_refl _) (by rw [hz2];omega) (by omega)
 rw [h,hz1]
 simp [Value.cells]
def normTo (ds:Ds) (k:Nat):Ds:=(ds.take k).map norm++List.replicate (ds.length - k) []
theorem normTo_zero (ds:Ds):normTo ds 0=List.replicate ds.length []:=by simp [normTo]
theorem normTo_all (ds:Ds):normTo ds ds.length=ds.map norm:=by simp [normTo]
theorem normTo_len (ds:Ds) (k:Nat) (hk:k<=ds.length):(normTo ds k).length=ds.length:=by simp [normTo];omega
theorem normTo_step (ds:Ds) (k:Nat) (hk:k<ds.length):normTo ds (k+1)=(normTo ds k).set k (norm ds[k]):=by
 unfold normTo
 rw [List.take_succ_eq_append_getElem hk,List.map_append,List.set_append_right _ _ (by simp;omega)]
 rw [show ds.length - k=(ds.length - (k+1))+1 by omega,List.replicate_succ]
 have e:k - ((ds.take k).map norm).length=0:=by simp;omega
 rw [e,List.set_cons_zero,List.append_assoc];rfl
set_option maxRecDepth 100000
set_option maxHeartbeats 1600000
theorem once_n (va vb vds:Value) (rel C:Int) (coef vars:List Int) (ds:Ds) (w:World) (h0:IsAt w va coef) (h1:IsAt w vb vars) (hd:DsAt w vds ds) (hg:GoodL coef vars ds) (hr:rel=1\/rel=2\/rel=3)
  (hC:-1099511627778<=C/\C<=1099511627778) (hnz:∀ c∈coef,c≠0) (hdl:ds.length<=4096) :
  Calls Tryz.prog 157 #[.agg #[va,vb,.int .i64 rel,.int .i64 C],vds] w (RetOn (onceL rel C ds (coef.zip vars)) w):=by
 have hZ:Below w.heap.size w (w.alloc (.cells #[va,vb,.int .i64 rel,.int .i64 C] 65)):=bA _
 obtain ⟨i0,hi,hz0,hz1,hz2⟩:=info_parts Tryz.infoRgs
 obtain ⟨a0,c0,rfl,_⟩:=IsAt.shape h0
 obtain ⟨a1,c1,rfl,_⟩:=IsAt.shape h1
 obtain ⟨a2,c2,rfl,_⟩:=hd.shape
 cases hA:allOk ds (coef.zip vars) with
 | false =>
  have CP:=hD (parts_no _ _ _ rel C coef vars ds _ (h0.below hZ) (h1.below hZ) (hd.below hZ) hg hA)
  have HR:onceL rel C ds (coef.zip vars)=none:=by unfold onceL;rw [if_neg (by rw [hA];simp)]
  rw [HR]
  have HZ:=hD hZ
  clear h0 h1 hd hg hZ hA HR
  go_enter Tryz.func157,Tryz.ntmps157
  go_wp2_with (go_at_call 158;(with_reducible refine CP.out.mono ?_);rintro e W1 ⟨rfl,bb⟩;have B1:=hD (bT HZ.out bb);clear bb)
  go_ret2
  exact ⟨bL B1.out _,.inr ⟨rfl,rfl⟩⟩
 | true =>
  have CP:=hD (parts_ok _ _ _ rel C coef vars ds _ (h0.below hZ) (h1.below hZ) (hd.below hZ) hg hA)
  have CS:Hid (∀ W,Below w.heap.size w W->Calls Tryz.prog 159 #[.agg #[.slice a0 coef.length c0,.slice a1 vars.length c1,.int .i64 rel,.int .i64 C],.slice a2 ds.length c2] W fun e w'=>e=.returned (.int .i64 (saysL rel C ds (coef.zip vars)))/\Below W.heap.size W w') :=
   fun W h=>says_c _ _ _ rel C coef vars ds W (h0.below h) (h1.below h) (hd.below h) hg hr
  have HZ:=hD hZ
  have HC:=hD (row_facts h0 h1 hd hg)
  have HB:=hD (sums_bnd hg)
  have HD:=hD hd
  have HDL:=hD hg.doms
  have hn:=hD hg.len
  have hn2:=hD hg.zip_len
  have hn16:=hg.le16
  have HN:Hid (∀ (k:Nat) (cf n:Int) (d:List Rg),(hk:k<(coef.zip vars).length)->(coef.zip vars)[k]=(cf,n)->domOf ds n=d->d.length<=4096->∀ vd W,Below w.heap.size w W->RgAt W vd d ->
    Calls Tryz.prog 160 #[.agg #[.slice a0 coef.length c0,.slice a1 vars.length c1,.int .i64 rel,.int .i64 C],.int .i64 k,vd,.agg #[.int .i64 (loS ds (coef.zip vars) - loT cf d),.int .i64 (hiS ds (coef.zip vars) - hiT cf d)]] W (RetR (narrowAt rel C ds (loS ds (coef.zip vars)) (hiS ds (coef.zip vars)) (cf,n)) W)):=fun k cf n d hk e1 e2 hdl' vd W hb hdr=>by
   subst e2
   have hkc:k<coef.length:=by have:=hg.zip_len;omega
   have hcf:coef[k]=cf:=by have:=congrArg Prod.fst e1;rw [List.getElem_zip] at this;exact this
   have hcc:=hg.coefs _ (List.getElem_mem hkc)
   have hc0:=hnz _ (List.getElem_mem hkc)
   rw [hcf] at hcc hc0
   obtain ⟨⟨s1,s2⟩,⟨s3,s4⟩⟩:=loT_bnd cf (domOf ds n) hcc
   have hB:=sums_bnd hg (coef.zip vars).length
   rw [List.take_length] at hB
   obtain ⟨⟨s5,s6⟩,⟨s7,s8⟩⟩:=hB
   exact narrowed_c _ _ vd rel C coef k cf (domOf ds n) _ _ W (h0.below hb) hdr hdl' hkc hcf hcc hc0 hr hC ⟨by omega,by omega⟩ ⟨by omega,by omega⟩
  have HR:onceL rel C ds (coef.zip vars)=if coef.zip vars=[]/\saysL rel C ds (coef.zip vars)<1 then none else onceGo rel C ds (loS ds (coef.zip vars)) (hiS ds (coef.zip vars)) (coef.zip vars) (ds.map norm):=by unfold onceL;rw [if_pos hA]
  rw [HR]
  have hzn:coef.zip vars=[]↔vars=[]:=by
   rw [<- List.length_eq_zero_iff,<- List.length_eq_zero_iff,hg.zip_len,hg.len]
  have HB2:=hD (HB.out (coef.zip vars).length)
  rw [List.take_length] at HB2
  clear h0 h1 hd hg hZ hA HR hnz HB
  generalize hps:coef.zip vars=ps at *
  clear hps
  generalize loS ds ps=lo at *
  generalize hiS ds ps=hi at *
  have hmk:=mk_rows ds.length hdl
  by_cases hv0:vars=[]
  ·have hvl:((vars.length:Int)==0)=true:=by rw [hv0];rfl
   have hpn:=hzn.2 hv0
   clear hzn hv0
   generalize hsv:saysL rel C ds ps=sv at *
   clear hsv
   by_cases hs:sv<1
   ·rw [if_pos ⟨hpn,hs⟩]
    clear hpn
    go_enter Tryz.func157,Tryz.ntmps157
    go_wp2_with (first
     | (go_at_call 158;(with_reducible refine CP.out.mono ?_);rintro e W1 ⟨ap,cp,rfl,rp,bb⟩;have B1:=hD (bT HZ.out bb);have y0:=bb.cell (p:=⟨w.heap.size,0,none⟩) (by simp);have y1:=bb.cell (p:=⟨w.heap.size,1,none⟩) (by simp);have y2:=bb.cell (p:=⟨w.heap.size,2,none⟩) (by simp);have y3:=bb.cell (p:=⟨w.heap.size,3,none⟩) (by simp);simp at y0 y1 y2 y3;have l1:=World.block_lt_of_cell? W1 _ y0;have RP:=hD rp;have Y:=hD (And.intro y0 (And.intro y1 (And.intro y2 y3)));clear bb rp)
     | (go_at_call 159;(with_reducible refine (CS.out _ (B1.out.alloc B1.out.size (.cells #[.int .i64 lo,.int .i64 hi] 198))).mono ?_);rintro e W5 ⟨rfl,b5⟩;have B5:=hD ((B1.out.alloc B1.out.size (.cells #[.int .i64 lo,.int .i64 hi] 198)).trans (b5.mono (B1.out.alloc B1.out.size (.cells #[.int .i64 lo,.int .i64 hi] 198)).size));clear b5))
    go_ret2
    exact ⟨B5.out,.inr ⟨rfl,rfl⟩⟩
   ·rw [if_neg (fun h=>hs h.2)]
    clear hpn
    go_enter Tryz.func157,Tryz.ntmps157
    go_wp2_with (first
     | (go_at_call 158;(with_reducible refine CP.out.mono ?_);rintro e W1 ⟨ap,cp,rfl,rp,bb⟩;have B1:=hD (bT HZ.out bb);have y0:=bb.cell (p:=⟨w.heap.size,0,none⟩) (by simp);have y1:=bb.cell (p:=⟨w.heap.size,1,none⟩) (by simp);have y2:=bb.cell (p:=⟨w.heap.size,2,none⟩) (by simp);have y3:=bb.cell (p:=⟨w.heap.size,3,none⟩) (by simp);simp at y0 y1 y2 y3;have l1:=World.block_lt_of_cell? W1 _ y0;have RP:=hD rp;have Y:=hD (And.intro y0 (And.intro y1 (And.intro y2 y3)));clear bb rp)
     | (go_at_call 159;(with_reducible refine (CS.out _ (B1.out.alloc B1.out.size (.cells #[.int .i64 lo,.int .i64 hi] 198))).mono ?_);rintro e W5 ⟨rfl,b5⟩;have B5:=hD b5;clear b5))
    have BW:=hD ((B1.out.alloc B1.out.size (.cells #[.int .i64 lo,.int .i64 hi] 198)).trans (B5.out.mono (B1.out.alloc B1.out.size (.cells #[.int .i64 lo,.int .i64 hi] 198)).size))
    have BX:=hD ((Box2.mk' W1 (.int .i64 lo) (.int .i64 hi) 198).past B5.out)
    have BR:=hD (SlAt.below (SlAt.alloc RP.out (.cells #[.int .i64 lo,.int .i64 hi] 198)) B5.out)
    have CC:∀ {p:Addr} {v:Value},W1.cell? p=some v->W5.cell? p=some v:=fun {p v} h=>(B5.out.cell (p:=p) (by have:=World.block_lt_of_cell? W1 _ h;simp;omega)).trans (Lib.cell?_alloc_some (.cells #[.int .i64 lo,.int .i64 hi] 198) h)
    have BY:=hD (And.intro (CC Y.out.1) (And.intro (CC Y.out.2.1) (And.intro (CC Y.out.2.2.1) (CC Y.out.2.2.2))))
    clear CC B5 CS hs
    have hW2a:Below w.heap.size w W5:=BW.out
    have hW2b:Box2 W5 W1.heap.size (.int .i64 lo) (.int .i64 hi):=BX.out
    have hW2c:RgAt W5 (.slice ap ps.length cp) (spans ds ps):=BR.out
    have hW2d:W5.cell? ⟨w.heap.size,0,none⟩=some (.slice a0 coef.length c0)/\W5.cell? ⟨w.heap.size,1,none⟩=some (.slice a1 vars.length c1)/\W5.cell? ⟨w.heap.size,2,none⟩=some (.int .i64 rel)/\W5.cell? ⟨w.heap.size,3,none⟩=some (.int .i64 C):=BY.out
    clear BW BX BR BY RP Y B1 y0 y1 y2 y3 CP
    generalize W5=W2 at hW2a hW2b hW2c hW2d |-
    have HW:=hD hW2a
    have HX:=hD hW2b
    have HP:=hD hW2c
    have HY:=hD hW2d
    have hB7:=hW2b.lt
    have hB0:=World.block_lt_of_cell? W2 _ hW2d.1
    have hwl:=hW2a.size
    clear hW2a hW2b hW2c hW2d
    generalize W1.heap.size=B7 at *
    obtain ⟨BO,hBO⟩:∃ BO,BO=W2.heap.size:=⟨_,rfl⟩
    rw [<- hBO]
    have HSZ:=hD hBO.symm
    clear hBO
    go_loopw [41] (fun s wr=>∃ k:Nat,k<=ds.length/\s=.int .i64 k/\DsOwn wr BO (.slice (some ⟨BO,0,none⟩) ds.length ds.length) (normTo ds k)/\Below W2.heap.size W2 wr) (fun s _=>ds.length - (intOf s).toNat)
    case atStart=>exact ⟨0,by omega,rfl,by rw [normTo_zero];have h:=DsOwn.made W2 ds.length (by unfold maxLen;omega) _ rfl;rw [HSZ.out] at h;exact h,bA _⟩
    case round =>
     obtain ⟨k,hk,rfl,hown,hbel⟩:=hrel
     have HB1:=hD hbel
     have hle:=hbel.size
     clear hbel
     by_cases hlt:k<ds.length
     ·obtain ⟨b,off,ao,cap,rfl,q1,q2,_,hc,hrg⟩:=(HD.out).get k hlt
      have j1:(k:Int)<ds.length:=by omega
      have hbw:Below w.heap.size w wr:=HW.out.trans (HB1.out.mono hwl)
      rw [<- hbw.cell (p:=⟨b,off+k,none⟩) q2] at hc
      have CN:=hD (norm_c _ ds[k] wr (hrg.below hbw) (HDL.out _ (List.getElem_mem hlt)))
      have hst:=hD (normTo_step ds k hlt)
      have hnl:=normTo_len ds k hk
      generalize ds[k]=d at *
      go_wp2_with (go_at_call 54;(with_reducible refine CN.out.mono ?_);rintro e W3 ⟨a3,c3,rfl,r3,b3⟩;have HO:=hD (hown.below b3);have B3:=hD (HB1.out.trans (b3.mono hle));have R3:=hD r3;obtain ⟨u3,z2,z3⟩:=HO.out.cellAt k (Nat.lt_of_lt_of_eq hlt hnl.symm);clear b3 r3)
      refine ⟨⟨k+1,by omega,by go_num,?_,B3.out.setCell (p:=⟨BO,k,none⟩) (Nat.le_of_eq HSZ.out) _⟩,by simp [intOf];omega⟩
      rw [hst.out]
      have:=HO.out
      rw [<- hnl] at this |-
      exact DsOwn.set this k (by omega) R3.out
     ·obtain rfl:k=ds.length:=by omega
      rw [normTo_all] at hown
      have HB2':=hD HB1.out
      have hy1:=(HB1.out.cell (p:=⟨w.heap.size,1,none⟩) hB0).trans HY.out.2.1
      have e0:=hD (show (ds.map norm).length=ds.length by simp)
      have HOW:=hD hown
      generalize hres:onceGo rel C ds lo hi ps (ds.map norm)=RES at *
      have HRES:=hD hres
      clear hres hown
      generalize ds.map norm=out0 at *
      go_wp2
      go_loopw [55] (fun s wr=>∃ k:Nat,k<=ps.length/\s=.int .i64 k/\(∃ out:Ds,Hid (out.length=ds.length)/\DsOwn wr BO (.slice (some ⟨BO,0,none⟩) ds.length ds.length) out/\Hid (onceGo rel C ds lo hi (ps.drop k) out=RES))/\Below W2.heap.size W2 wr) (fun s _=>ps.length - (intOf s).toNat)
      case atStart=>exact ⟨0,by omega,rfl,⟨out0,e0,HOW.out,HRES⟩,HB1.out⟩
      case round =>
       clear HB1 HB2' hle hy1 HOW HRES e0
       obtain ⟨k,hk,rfl,⟨out,HOL,hown,HRES⟩,hbel⟩:=hrel
       have HB1:=hD hbel
       have hle:=hbel.size
       clear hbel
       by_cases hlt:k<ps.length
       ·obtain ⟨b0,o0,b1,o1,b2,o2,n,ao,cap,cf,d,⟨rfl,rfl,rfl⟩,⟨l0,l1',l2⟩,⟨q0,q1,q2⟩,hnn,x0,x1,x2,x3,e1,e2,hdl',hc1,hc2⟩:=HC.out k hlt
        have hbw:Below w.heap.size w wr:=HW.out.trans (HB1.out.mono hwl)
        obtain ⟨b3,o3,cp',he3,hcp3,hb3,hcs⟩:=RgAt.at HP.out (by rw [spans_length];omega)
        simp only [Value.slice.injEq] at he3
        obtain ⟨rfl,hjunk,rfl⟩:=he3
        clear hjunk
        have hsp:=hcs k (by rw [spans_length];exact hlt)
        have es:(spans ds ps)[k]'(by rw [spans_length];exact hlt)=(loT cf d,hiT cf d):=by simp only [spans,List.getElem_map,e1,e2]
        rw [es] at hsp
        obtain ⟨p0,p1⟩:=hsp
        rw [spans_length] at hcp3
        clear hcs es
        have j1:(k:Int)<ps.length:=by omega
        have j2:(k:Int)<vars.length:=by have:=hn.out;have:=hn2.out;omega
        have j3:(n:Int)<ds.length:=by omega
        have j4:(k:Int)<=16:=by have:=hn2.out;omega
        obtain ⟨⟨s1,s2⟩,⟨s3,s4⟩⟩:=loT_bnd cf d ⟨hc1,hc2⟩
        obtain ⟨⟨s5,s6⟩,⟨s7,s8⟩⟩:=HB2.out
        have HNk:Hid (∀ W,Below w.heap.size w W->Calls Tryz.prog 160 #[.agg #[.slice (some ⟨b0,o0,none⟩) coef.length c0,.slice (some ⟨b1,o1,none⟩) vars.length c1,.int .i64 rel,.int .i64 C],.int .i64 k,.slice ao d.length cap,.agg #[.int .i64 (lo - loT cf d),.int .i64 (hi - hiT cf d)]] W (RetR (narrowAt rel C ds lo hi (cf,(n:Int))) W)) :=
         fun W h=>HN.out k cf n d hlt e1 e2 hdl' _ W h (x3.below h)
        have hgo:onceGo rel C ds lo hi (ps.drop k) out=if narrowAt rel C ds lo hi (cf,(n:Int))=[] then none else onceGo rel C ds lo hi (ps.drop (k+1)) (out.set n (narrowAt rel C ds lo hi (cf,(n:Int)))):=by
         rw [List.drop_eq_getElem_cons hlt,e1];rfl
        rw [HRES.out] at hgo
        have HGO:=hD hgo
        have w1:=wrap_small (x:=lo - loT cf d) (by omega)
        have w2:=wrap_small (x:=hi - hiT cf d) (by omega)
        rw [<- hbw.cell (p:=⟨b1,o1+k,none⟩) q1] at x1
        rw [<- hbw.cell (p:=⟨b2,o2+n,none⟩) q2] at x2
        clear hgo e1 e2 x0 x3
        generalize loT cf d=tlo at *
        generalize hiT cf d=thi at *
        generalize narrowAt rel C ds lo hi (cf,(n:Int))=nw at *
        obtain ⟨y0,y1,y2,y3⟩:=HY.out
        have hsz2:=HSZ.out
        have HSW:Hid (∀ W',Below wr.heap.size wr W'->W'.cell? ⟨w.heap.size,0,none⟩=some (.slice (some ⟨b0,o0,none⟩) coef.length c0)/\W'.cell? ⟨w.heap.size,1,none⟩=some (.slice (some ⟨b1,o1,none⟩) vars.length c1)/\W'.cell? ⟨w.heap.size,2,none⟩=some (.int .i64 rel)/\W'.cell? ⟨w.heap.size,3,none⟩=some (.int .i64 C)/\W'.cell? ⟨b2,o2+n,none⟩=some (.slice ao d.length cap)/\W'.cell? ⟨B7,0,none⟩=some (.int .i64 lo)/\W'.cell? ⟨B7,1,none⟩=some (.int .i64 hi)/\W'.cell? ⟨b3,o3+k * 2,none⟩=some (.int .i64 tlo)/\W'.cell? ⟨b3,o3+k * 2+1,none⟩=some (.int .i64 thi)):=fun W' h=>by
         have hh:Below W2.heap.size W2 W':=HB1.out.trans (h.mono hle)
         exact ⟨(hh.cell (p:=⟨w.heap.size,0,none⟩) hB0).trans y0,(hh.cell (p:=⟨w.heap.size,1,none⟩) hB0).trans y1,(hh.cell (p:=⟨w.heap.size,2,none⟩) hB0).trans y2,(hh.cell (p:=⟨w.heap.size,3,none⟩) hB0).trans y3,(h.cell (p:=⟨b2,o2+n,none⟩) (by simp;omega)).trans x2,(HX.out.below hh hB7).c0,(HX.out.below hh hB7).c1,(hh.cell (p:=⟨b3,o3+k * 2,none⟩) hb3).trans p0,(hh.cell (p:=⟨b3,o3+k * 2+1,none⟩) hb3).trans p1⟩
        obtain ⟨sw0,sw1,sw2,sw3,sw4,sw5,sw6,sw7,sw8⟩:=HSW.out wr (Below.refl _ _)
        have HBW:=hD hbw
        clear y0 y1 y2 y3 p0 p1 x2 hsz2 hbw
        have hjz:((k:Int)).toNat=k:=by simp
        clear hjz
        go_wp2
        go_region_held3 (fun W'=>W'.cell? ⟨w.heap.size,0,none⟩=some (.slice (some ⟨b0,o0,none⟩) coef.length c0)/\W'.cell? ⟨w.heap.size,1,none⟩=some (.slice (some ⟨b1,o1,none⟩) vars.length c1)/\W'.cell? ⟨w.heap.size,2,none⟩=some (.int .i64 rel)/\W'.cell? ⟨w.heap.size,3,none⟩=some (.int .i64 C)/\W'.cell? ⟨b2,o2+n,none⟩=some (.slice ao d.length cap)/\W'.cell? ⟨B7,0,none⟩=some (.int .i64 lo)/\W'.cell? ⟨B7,1,none⟩=some (.int .i64 hi)/\W'.cell? ⟨b3,o3+k * 2,none⟩=some (.int .i64 tlo)/\W'.cell? ⟨b3,o3+k * 2+1,none⟩=some (.int .i64 thi)) ((refine HSW.out _ ?_;go_grown))
         (first | (go_at_call 160;refine (HNk.out _ ?_).mono ?_;(·exact HBW.out.drew);rintro e W4 ⟨a4,c4,rfl,r4,b4⟩;have bw:Below wr.heap.size wr W4:=Below.trans ((Below.refl _ wr).drew) b4;have R4:=hD r4;have HO4:=hD (hown.below bw);have B4:=hD (HB1.out.trans (bw.mono hle));have bwl:=bw.size;clear b4 r4))
        clear w1 w2 sw0 sw1 sw2 sw3 sw4 sw5 sw6 sw7 sw8
        all_goals
         by_cases hnw:nw=[]
         ·subst hnw
          rw [show ([]:List Rg).length=0 from rfl]
          go_wp2
          go_ret2
          exact ⟨HW.out.trans (B4.out.mono hwl),.inr ⟨by rw [HGO.out];simp,rfl⟩⟩
         ·have hz:((nw.length:Int)==0)=false:=beqf (by have:=List.length_pos_iff.2 hnw;omega)
          obtain ⟨u3,z2,z3⟩:=HO4.out.cellAt n (by have:=HOL.out;omega)
          go_wp2
          refine ⟨⟨k+1,Nat.succ_le_of_lt hlt,by go_num,⟨out.set n nw,?_,?_,?_⟩,B4.out.setCell (p:=⟨BO,n,none⟩) (Nat.le_of_eq HSZ.out) _⟩,by simp [intOf];clear HBW;omega⟩
          ·show _=_;rw [List.length_set];exact HOL.out
          ·have hh:=HO4.out
           have hl:=HOL.out
           rw [<- hl] at hh |-
           exact DsOwn.set hh n (by omega) R4.out
          ·show _=_;rw [HGO.out,if_neg hnw]
       ·obtain rfl:k=ps.length:=by omega
        have hlv:¬ ps.length<vars.length:=by have:=hn.out;have:=hn2.out;omega
        go_wp2
        go_ret2
        refine ⟨HW.out.trans (HB1.out.mono hwl),.inl ⟨out,some ⟨BO,0,none⟩,ds.length,?_,?_,?_,?_⟩⟩
        ·rw [<- HRES.out,List.drop_length];rfl
        ·rw [HOL.out];rfl
        ·have hl:=HOL.out
         have hh:=hown.at
         rw [hl];exact hh
        ·intro b hb;have hb':BO=b:=by simpa [Value.ownBlock] using hb
         have:=HSZ.out;omega
  ·rw [if_neg (fun h=>hv0 (hzn.1 h.1))]
   have hvl:((vars.length:Int)==0)=false:=beqf (by have:=List.length_pos_iff.2 hv0;omega)
   clear CS hzn
   go_enter Tryz.func157,Tryz.ntmps157
   go_wp2_with (first
    | (go_at_call 158;(with_reducible refine CP.out.mono ?_);rintro e W1 ⟨ap,cp,rfl,rp,bb⟩;have B1:=hD (bT HZ.out bb);have y0:=bb.cell (p:=⟨w.heap.size,0,none⟩) (by simp);have y1:=bb.cell (p:=⟨w.heap.size,1,none⟩) (by simp);have y2:=bb.cell (p:=⟨w.heap.size,2,none⟩) (by simp);have y3:=bb.cell (p:=⟨w.heap.size,3,none⟩) (by simp);simp at y0 y1 y2 y3;have l1:=World.block_lt_of_cell? W1 _ y0;have RP:=hD rp;have Y:=hD (And.intro y0 (And.intro y1 (And.intro y2 y3)));clear bb rp))
   have BW:=hD (B1.out.alloc B1.out.size (.cells #[.int .i64 lo,.int .i64 hi] 198))
   have BX:=hD (Box2.mk' W1 (.int .i64 lo) (.int .i64 hi) 198)
   have BR:=hD (SlAt.alloc RP.out (.cells #[.int .i64 lo,.int .i64 hi] 198))
   have BY:=hD (And.intro (Lib.cell?_alloc_some (.cells #[.int .i64 lo,.int .i64 hi] 198) Y.out.1) (And.intro (Lib.cell?_alloc_some (.cells #[.int .i64 lo,.int .i64 hi] 198) Y.out.2.1) (And.intro (Lib.cell?_alloc_some (.cells #[.int .i64 lo,.int .i64 hi] 198) Y.out.2.2.1) (Lib.cell?_alloc_some (.cells #[.int .i64 lo,.int .i64 hi] 198) Y.out.2.2.2))))
   have hW2a:Below w.heap.size w (W1.alloc (.cells #[.int .i64 lo,.int .i64 hi] 198)):=BW.out
   have hW2b:Box2 (W1.alloc (.cells #[.int .i64 lo,.int .i64 hi] 198)) W1.heap.size (.int .i64 lo) (.int .i64 hi):=BX.out
   have hW2c:RgAt (W1.alloc (.cells #[.int .i64 lo,.int .i64 hi] 198)) (.slice ap ps.length cp) (spans ds ps):=BR.out
   have hW2d:(W1.alloc (.cells #[.int .i64 lo,.int .i64 hi] 198)).cell? ⟨w.heap.size,0,none⟩=some (.slice a0 coef.length c0)/\(W1.alloc (.cells #[.int .i64 lo,.int .i64 hi] 198)).cell? ⟨w.heap.size,1,none⟩=some (.slice a1 vars.length c1)/\(W1.alloc (.cells #[.int .i64 lo,.int .i64 hi] 198)).cell? ⟨w.heap.size,2,none⟩=some (.int .i64 rel)/\(W1.alloc (.cells #[.int .i64 lo,.int .i64 hi] 198)).cell? ⟨w.heap.size,3,none⟩=some (.int .i64 C):=BY.out
   have HSZ:Hid ((W1.alloc (.cells #[.int .i64 lo,.int .i64 hi] 198)).heap.size=W1.heap.size+1):=by show _=_;simp
   clear BW BX BR BY RP Y B1 y0 y1 y2 y3 CP
   generalize (W1.alloc (.cells #[.int .i64 lo,.int .i64 hi] 198))=W2 at hW2a hW2b hW2c hW2d HSZ |-
   have HW:=hD hW2a
   have HX:=hD hW2b
   have HP:=hD hW2c
   have HY:=hD hW2d
   have hB7:=hW2b.lt
   have hB0:=World.block_lt_of_cell? W2 _ hW2d.1
   have hwl:=hW2a.size
   clear hW2a hW2b hW2c hW2d
   generalize W1.heap.size=B7 at *
   generalize hBO:B7+1=BO at *
   clear hBO
   go_loopw [41] (fun s wr=>∃ k:Nat,k<=ds.length/\s=.int .i64 k/\DsOwn wr BO (.slice (some ⟨BO,0,none⟩) ds.length ds.length) (normTo ds k)/\Below W2.heap.size W2 wr) (fun s _=>ds.length - (intOf s).toNat)
   case atStart=>exact ⟨0,by omega,rfl,by rw [normTo_zero];have h:=DsOwn.made W2 ds.length (by unfold maxLen;omega) _ rfl;rw [HSZ.out] at h;exact h,bA _⟩
   case round =>
    obtain ⟨k,hk,rfl,hown,hbel⟩:=hrel
    have HB1:=hD hbel
    have hle:=hbel.size
    clear hbel
    by_cases hlt:k<ds.length
    ·obtain ⟨b,off,ao,cap,rfl,q1,q2,_,hc,hrg⟩:=(HD.out).get k hlt
     have j1:(k:Int)<ds.length:=by omega
     have hbw:Below w.heap.size w wr:=HW.out.trans (HB1.out.mono hwl)
     rw [<- hbw.cell (p:=⟨b,off+k,none⟩) q2] at hc
     have CN:=hD (norm_c _ ds[k] wr (hrg.below hbw) (HDL.out _ (List.getElem_mem hlt)))
     have hst:=hD (normTo_step ds k hlt)
     have hnl:=normTo_len ds k hk
     generalize ds[k]=d at *
     go_wp2_with (go_at_call 54;(with_reducible refine CN.out.mono ?_);rintro e W3 ⟨a3,c3,rfl,r3,b3⟩;have HO:=hD (hown.below b3);have B3:=hD (HB1.out.trans (b3.mono hle));have R3:=hD r3;obtain ⟨u3,z2,z3⟩:=HO.out.cellAt k (Nat.lt_of_lt_of_eq hlt hnl.symm);clear b3 r3)
     refine ⟨⟨k+1,by omega,by go_num,?_,B3.out.setCell (p:=⟨BO,k,none⟩) (Nat.le_of_eq HSZ.out) _⟩,by simp [intOf];omega⟩
     rw [hst.out]
     have:=HO.out
     rw [<- hnl] at this |-
     exact DsOwn.set this k (by omega) R3.out
    ·obtain rfl:k=ds.length:=by omega
     rw [normTo_all] at hown
     have HB2':=hD HB1.out
     have hy1:=(HB1.out.cell (p:=⟨w.heap.size,1,none⟩) hB0).trans HY.out.2.1
     have e0:=hD (show (ds.map norm).length=ds.length by simp)
     have HOW:=hD hown
     generalize hres:onceGo rel C ds lo hi ps (ds.map norm)=RES at *
     have HRES:=hD hres
     clear hres hown
     generalize ds.map norm=out0 at *
     go_wp2
     go_loopw [55] (fun s wr=>∃ k:Nat,k<=ps.length/\s=.int .i64 k/\(∃ out:Ds,Hid (out.length=ds.length)/\DsOwn wr BO (.slice (some ⟨BO,0,none⟩) ds.length ds.length) out/\Hid (onceGo rel C ds lo hi (ps.drop k) out=RES))/\Below W2.heap.size W2 wr) (fun s _=>ps.length - (intOf s).toNat)
     case atStart=>exact ⟨0,by omega,rfl,⟨out0,e0,HOW.out,HRES⟩,HB1.out⟩
     case round =>
      clear HB1 HB2' hle hy1 HOW HRES e0
      obtain ⟨k,hk,rfl,⟨out,HOL,hown,HRES⟩,hbel⟩:=hrel
      have HB1:=hD hbel
      have hle:=hbel.size
      clear hbel
      by_cases hlt:k<ps.length
      ·obtain ⟨b0,o0,b1,o1,b2,o2,n,ao,cap,cf,d,⟨rfl,rfl,rfl⟩,⟨l0,l1',l2⟩,⟨q0,q1,q2⟩,hnn,x0,x1,x2,x3,e1,e2,hdl',hc1,hc2⟩:=HC.out k hlt
       have hbw:Below w.heap.size w wr:=HW.out.trans (HB1.out.mono hwl)
       obtain ⟨b3,o3,cp',he3,hcp3,hb3,hcs⟩:=RgAt.at HP.out (by rw [spans_length];omega)
       simp only [Value.slice.injEq] at he3
       obtain ⟨rfl,hjunk,rfl⟩:=he3
       clear hjunk
       have hsp:=hcs k (by rw [spans_length];exact hlt)
       have es:(spans ds ps)[k]'(by rw [spans_length];exact hlt)=(loT cf d,hiT cf d):=by simp only [spans,List.getElem_map,e1,e2]
       rw [es] at hsp
       obtain ⟨p0,p1⟩:=hsp
       rw [spans_length] at hcp3
       clear hcs es
       have j1:(k:Int)<ps.length:=by omega
       have j2:(k:Int)<vars.length:=by have:=hn.out;have:=hn2.out;omega
       have j3:(n:Int)<ds.length:=by omega
       have j4:(k:Int)<=16:=by have:=hn2.out;omega
       obtain ⟨⟨s1,s2⟩,⟨s3,s4⟩⟩:=loT_bnd cf d ⟨hc1,hc2⟩
       obtain ⟨⟨s5,s6⟩,⟨s7,s8⟩⟩:=HB2.out
       have HNk:Hid (∀ W,Below w.heap.size w W->Calls Tryz.prog 160 #[.agg #[.slice (some ⟨b0,o0,none⟩) coef.length c0,.slice (some ⟨b1,o1,none⟩) vars.length c1,.int .i64 rel,.int .i64 C],.int .i64 k,.slice ao d.length cap,.agg #[.int .i64 (lo - loT cf d),.int .i64 (hi - hiT cf d)]] W (RetR (narrowAt rel C ds lo hi (cf,(n:Int))) W)) :=
        fun W h=>HN.out k cf n d hlt e1 e2 hdl' _ W h (x3.below h)
       have hgo:onceGo rel C ds lo hi (ps.drop k) out=if narrowAt rel C ds lo hi (cf,(n:Int))=[] then none else onceGo rel C ds lo hi (ps.drop (k+1)) (out.set n (narrowAt rel C ds lo hi (cf,(n:Int)))):=by
        rw [List.drop_eq_getElem_cons hlt,e1];rfl
       rw [HRES.out] at hgo
       have HGO:=hD hgo
       have w1:=wrap_small (x:=lo - loT cf d) (by omega)
       have w2:=wrap_small (x:=hi - hiT cf d) (by omega)
       rw [<- hbw.cell (p:=⟨b1,o1+k,none⟩) q1] at x1
       rw [<- hbw.cell (p:=⟨b2,o2+n,none⟩) q2] at x2
       clear hgo e1 e2 x0 x3
       generalize loT cf d=tlo at *
       generalize hiT cf d=thi at *
       generalize narrowAt rel C ds lo hi (cf,(n:Int))=nw at *
       obtain ⟨y0,y1,y2,y3⟩:=HY.out
       have hsz2:=HSZ.out
       have HSW:Hid (∀ W',Below wr.heap.size wr W'->W'.cell? ⟨w.heap.size,0,none⟩=some (.slice (some ⟨b0,o0,none⟩) coef.length c0)/\W'.cell? ⟨w.heap.size,1,none⟩=some (.slice (some ⟨b1,o1,none⟩) vars.length c1)/\W'.cell? ⟨w.heap.size,2,none⟩=some (.int .i64 rel)/\W'.cell? ⟨w.heap.size,3,none⟩=some (.int .i64 C)/\W'.cell? ⟨b2,o2+n,none⟩=some (.slice ao d.length cap)/\W'.cell? ⟨B7,0,none⟩=some (.int .i64 lo)/\W'.cell? ⟨B7,1,none⟩=some (.int .i64 hi)/\W'.cell? ⟨b3,o3+k * 2,none⟩=some (.int .i64 tlo)/\W'.cell? ⟨b3,o3+k * 2+1,none⟩=some (.int .i64 thi)):=fun W' h=>by
        have hh:Below W2.heap.size W2 W':=HB1.out.trans (h.mono hle)
        exact ⟨(hh.cell (p:=⟨w.heap.size,0,none⟩) hB0).trans y0,(hh.cell (p:=⟨w.heap.size,1,none⟩) hB0).trans y1,(hh.cell (p:=⟨w.heap.size,2,none⟩) hB0).trans y2,(hh.cell (p:=⟨w.heap.size,3,none⟩) hB0).trans y3,(h.cell (p:=⟨b2,o2+n,none⟩) (by simp;omega)).trans x2,(HX.out.below hh hB7).c0,(HX.out.below hh hB7).c1,(hh.cell (p:=⟨b3,o3+k * 2,none⟩) hb3).trans p0,(hh.cell (p:=⟨b3,o3+k * 2+1,none⟩) hb3).trans p1⟩
       obtain ⟨sw0,sw1,sw2,sw3,sw4,sw5,sw6,sw7,sw8⟩:=HSW.out wr (Below.refl _ _)
       have HBW:=hD hbw
       clear y0 y1 y2 y3 p0 p1 x2 hsz2 hbw
       have hjz:((k:Int)).toNat=k:=by simp
       clear hjz
       go_wp2
       go_region_held3 (fun W'=>W'.cell? ⟨w.heap.size,0,none⟩=some (.slice (some ⟨b0,o0,none⟩) coef.length c0)/\W'.cell? ⟨w.heap.size,1,none⟩=some (.slice (some ⟨b1,o1,none⟩) vars.length c1)/\W'.cell? ⟨w.heap.size,2,none⟩=some (.int .i64 rel)/\W'.cell? ⟨w.heap.size,3,none⟩=some (.int .i64 C)/\W'.cell? ⟨b2,o2+n,none⟩=some (.slice ao d.length cap)/\W'.cell? ⟨B7,0,none⟩=some (.int .i64 lo)/\W'.cell? ⟨B7,1,none⟩=some (.int .i64 hi)/\W'.cell? ⟨b3,o3+k * 2,none⟩=some (.int .i64 tlo)/\W'.cell? ⟨b3,o3+k * 2+1,none⟩=some (.int .i64 thi)) ((refine HSW.out _ ?_;go_grown))
        (first | (go_at_call 160;refine (HNk.out _ ?_).mono ?_;(·exact HBW.out.drew);rintro e W4 ⟨a4,c4,rfl,r4,b4⟩;have bw:Below wr.heap.size wr W4:=Below.trans ((Below.refl _ wr).drew) b4;have R4:=hD r4;have HO4:=hD (hown.below bw);have B4:=hD (HB1.out.trans (bw.mono hle));have bwl:=bw.size;clear b4 r4))
       clear w1 w2 sw0 sw1 sw2 sw3 sw4 sw5 sw6 sw7 sw8
       all_goals
        by_cases hnw:nw=[]
        ·subst hnw
         rw [show ([]:List Rg).length=0 from rfl]
         go_wp2
         go_ret2
         exact ⟨HW.out.trans (B4.out.mono hwl),.inr ⟨by rw [HGO.out];simp,rfl⟩⟩
        ·have hz:((nw.length:Int)==0)=false:=beqf (by have:=List.length_pos_iff.2 hnw;omega)
         obtain ⟨u3,z2,z3⟩:=HO4.out.cellAt n (by have:=HOL.out;omega)
         go_wp2
         refine ⟨⟨k+1,Nat.succ_le_of_lt hlt,by go_num,⟨out.set n nw,?_,?_,?_⟩,B4.out.setCell (p:=⟨BO,n,none⟩) (Nat.le_of_eq HSZ.out) _⟩,by simp [intOf];clear HBW;omega⟩
         ·show _=_;rw [List.length_set];exact HOL.out
         ·have hh:=HO4.out
          have hl:=HOL.out
          rw [<- hl] at hh |-
          exact DsOwn.set hh n (by omega) R4.out
         ·show _=_;rw [HGO.out,if_neg hnw]
      ·obtain rfl:k=ps.length:=by omega
       have hlv:¬ ps.length<vars.length:=by have:=hn.out;have:=hn2.out;omega
       go_wp2
       go_ret2
       refine ⟨HW.out.trans (HB1.out.mono hwl),.inl ⟨out,some ⟨BO,0,none⟩,ds.length,?_,?_,?_,?_⟩⟩
       ·rw [<- HRES.out,List.drop_length];rfl
       ·rw [HOL.out];rfl
       ·have hl:=HOL.out
        have hh:=hown.at
        rw [hl];exact hh
       ·intro b hb;have hb':BO=b:=by simpa [Value.ownBlock] using hb
        have:=HSZ.out;omega
end
end Go.Proofs.YtaekdgikgbdnnaaGreat
