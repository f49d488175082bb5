/-
  LISTS OF CONSTRAINTS IN MEMORY; fix.Check, coneyref17.Check and the law FixChecks, walked.
  LISTS OF CONSTRAINTS THAT COME IN.
  WHETHER TWO LISTS OF SETS ARE THE SAME, walked.
  fix.Check and the law FixChecks, walked.
  slices.Equal of two sets, walked.
-/
import Derived.Test.YtaekdgikgbdnnaaGreatKrel4
import Derived.Test.YtaekdgikgbdnnaaGreatKrel1
import Derived.Test.YtaekdgikgbdnnaaGreatKlin1
import Derived.Test.YtaekdgikgbdnnaaGreatKdom2
import Derived.Deep.QuietTactic
import Derived.BigQuiet
namespace Go.Proofs.YtaekdgikgbdnnaaGreat
section
open Go.RowKit
def CellsP (w:World) (b o:Nat) (p:PL) (va vb vv:Value):Prop :=
 w.cell? ⟨b,o,none⟩=some (.int .i64 p.kind)/\w.cell? ⟨b,o+1,none⟩=some va/\w.cell? ⟨b,o+2,none⟩=some vb/\w.cell? ⟨b,o+3,none⟩=some (.int .i64 p.rel)/\w.cell? ⟨b,o+4,none⟩=some (.int .i64 p.c) /\
 w.cell? ⟨b,o+5,none⟩=some (.int .i64 p.x)/\w.cell? ⟨b,o+6,none⟩=some (.int .i64 p.y)/\w.cell? ⟨b,o+7,none⟩=some (.int .i64 p.z)/\w.cell? ⟨b,o+8,none⟩=some vv
theorem CellsP.below {w w':World} {b o:Nat} {p:PL} {va vb vv:Value} (h:CellsP w b o p va vb vv) (hl:b<w.heap.size) (hb:Below w.heap.size w w'):CellsP w' b o p va vb vv:=by
 obtain ⟨h0,h1,h2,h3,h4,h5,h6,h7,h8⟩:=h
 exact ⟨(hb.cell (p:=⟨b,o,none⟩) hl).trans h0,(hb.cell (p:=⟨b,o+1,none⟩) hl).trans h1,(hb.cell (p:=⟨b,o+2,none⟩) hl).trans h2,(hb.cell (p:=⟨b,o+3,none⟩) hl).trans h3,(hb.cell (p:=⟨b,o+4,none⟩) hl).trans h4,
  (hb.cell (p:=⟨b,o+5,none⟩) hl).trans h5,(hb.cell (p:=⟨b,o+6,none⟩) hl).trans h6,(hb.cell (p:=⟨b,o+7,none⟩) hl).trans h7,(hb.cell (p:=⟨b,o+8,none⟩) hl).trans h8⟩
def PsAt (w:World) (v:Value) (ps:List PL):Prop :=
 ∃ ao cap,v=.slice ao ps.length cap/\ps.length<=cap/\cap<=maxLen/\(0<ps.length->∃ b off,ao=some ⟨b,off,none⟩/\b<w.heap.size /\
  ∀ j,(hj:j<ps.length)->∃ va vb vv,CellsP w b (off+j * 9) ps[j] va vb vv/\IsAt w va ps[j].coef/\IsAt w vb ps[j].vars/\IsAt w vv ps[j].vs)
theorem PsAt.below {w w':World} {v:Value} {ps:List PL} (h:PsAt w v ps) (hb:Below w.heap.size w w'):PsAt w' v ps:=by
 obtain ⟨ao,cap,rfl,h1,h2,h3⟩:=h
 refine ⟨ao,cap,rfl,h1,h2,fun hp=>?_⟩
 obtain ⟨b,off,rfl,hl,hc⟩:=h3 hp
 refine ⟨b,off,rfl,Nat.lt_of_lt_of_le hl hb.size,fun j hj=>?_⟩
 obtain ⟨va,vb,vv,c,i0,i1,i2⟩:=hc j hj
 exact ⟨va,vb,vv,c.below hl hb,i0.below hb,i1.below hb,i2.below hb⟩
theorem PsAt.shape {w:World} {v:Value} {ps:List PL} (h:PsAt w v ps):∃ ao cap,v=.slice ao ps.length cap/\ps.length<=cap/\cap<=maxLen:=by
 obtain ⟨ao,cap,rfl,h1,h2,_⟩:=h;exact ⟨ao,cap,rfl,h1,h2⟩
theorem PsAt.get {w:World} {ao:Option Addr} {n cap:Nat} {ps:List PL} (h:PsAt w (.slice ao n cap) ps) (j:Nat) (hj:j<ps.length) :
  ∃ b off va vb vv,ao=some ⟨b,off,none⟩/\b<w.heap.size/\CellsP w b (off+j * 9) ps[j] va vb vv/\IsAt w va ps[j].coef/\IsAt w vb ps[j].vars/\IsAt w vv ps[j].vs:=by
 obtain ⟨ao',cap',he,h1,h2,h3⟩:=h
 simp only [Value.slice.injEq] at he
 obtain ⟨rfl,rfl,rfl⟩:=he
 obtain ⟨b,off,rfl,hl,hc⟩:=h3 (by omega)
 obtain ⟨va,vb,vv,c,i0,i1,i2⟩:=hc j hj
 exact ⟨b,off,va,vb,vv,rfl,hl,c,i0,i1,i2⟩
def PL.chk (p:PL) (n:Int):Int:=relChk p.kind p.rel p.c p.x p.y p.z p.coef p.vars p.vs n
def PL.ok (p:PL):Prop:=p.coef.length<=4095/\p.vars.length<=4095/\p.vs.length<=4095
def fixChk (m:Nat) (ps:List PL):Int:=if 64<m\/256<ps.length then 34 else ((ps.map (fun p=>p.chk m)).find? (·!= 0)).getD 0
theorem find_hit {l:List Int} {k:Nat} (hk:k<l.length) (h:∀ j,(hj:j<l.length)->j<k->l[j]=0) (hp:l[k]≠0):(l.find? (·!= 0)).getD 0=l[k]:=by
 induction l generalizing k with
 | nil=>simp at hk
 | cons a t ih =>
  cases k with
  | zero =>
   have hb:(a != 0)=true:=by simpa using hp
   simp [List.find?,hb]
  | succ k =>
   have h0:=h 0 (by simp) (by omega)
   simp at h0
   subst h0
   simp only [List.getElem_cons_succ] at hp |-
   rw [<- ih (by simpa using hk) (fun j hj hjk=>by have:=h (j+1) (by simpa using hj) (by omega);simpa using this) hp]
   simp [List.find?]
theorem find_none {l:List Int} (h:∀ j,(hj:j<l.length)->l[j]=0):(l.find? (·!= 0)).getD 0=0:=by
 have:l.find? (·!= 0)=none:=by
  rw [List.find?_eq_none]
  intro x hx
  obtain ⟨j,hj,rfl⟩:=List.getElem_of_mem hx
  simp [h j hj]
 rw [this];rfl
theorem fix_hit {m:Nat} {ps:List PL} {k:Nat} (hm:¬ 64<m) (hl:¬ 256<ps.length) (hk:k<ps.length) (h:∀ j,(hj:j<ps.length)->j<k->ps[j].chk m=0) (hp:ps[k].chk m≠0):fixChk m ps=ps[k].chk m:=by
 unfold fixChk
 rw [if_neg (by omega),find_hit (k:=k) (by simpa using hk) (fun j hj hjk=>by simpa using h j (by simpa using hj) hjk) (by simpa using hp)]
 simp
theorem fix_none {m:Nat} {ps:List PL} (hm:¬ 64<m) (hl:¬ 256<ps.length) (h:∀ j,(hj:j<ps.length)->ps[j].chk m=0):fixChk m ps=0:=by
 unfold fixChk
 rw [if_neg (by omega),find_none (fun j hj=>by simpa using h j (by simpa using hj))]
set_option maxRecDepth 100000
set_option maxHeartbeats 1600000
theorem refFixCheck_c (vd vp:Value) (ds:Ds) (ps:List PL) (w:World) (hd:DsAt w vd ds) (hp:PsAt w vp ps) (hok:∀ j,(hj:j<ps.length)->ps[j].ok) :
  Calls Tryz.prog 24 #[vd,vp] w fun e w'=>e=.returned (.int .i64 (fixChk ds.length ps))/\Below w.heap.size w w':=by
 obtain ⟨a0,c0,rfl,_⟩:=DsAt.shape hd
 obtain ⟨a1,c1,rfl,_⟩:=PsAt.shape hp
 have HP:=hD hp
 have HO:=hD hok
 generalize ds.length=m at *
 clear hd hp hok
 by_cases h1:64<m
 ·have hS:Hid (fixChk m ps=34):=by show _=_;unfold fixChk;rw [if_pos (by omega)]
  go_enter Tryz.func24,Tryz.ntmps24
  go_wp2
  go_ret
  exact ⟨ret_int hS.out.symm,Below.refl _ _⟩
 by_cases h2:256<ps.length
 ·have hS:Hid (fixChk m ps=34):=by show _=_;unfold fixChk;rw [if_pos (by omega)]
  go_enter Tryz.func24,Tryz.ntmps24
  go_wp2
  go_ret
  exact ⟨ret_int hS.out.symm,Below.refl _ _⟩
 have HH:Hid (∀ k,(hk:k<ps.length)->(∀ j,(hj:j<ps.length)->j<k->ps[j].chk m=0)->ps[k].chk m≠0->fixChk m ps=ps[k].chk m):=fun k hk h hp=>fix_hit h1 h2 hk h hp
 have HE:Hid ((∀ j,(hj:j<ps.length)->ps[j].chk m=0)->fixChk m ps=0):=fun h=>fix_none h1 h2 h
 generalize fixChk m ps=R at *
 go_enter Tryz.func24,Tryz.ntmps24
 go_wp2
 go_loopw [5] (fun s wr=>∃ i:Nat,i<=ps.length/\s=.int .i64 i/\Hid (∀ j,(hj:j<ps.length)->j<i->ps[j].chk m=0)/\Hid (Below w.heap.size w wr)) (fun s _=>ps.length - (intOf s).toNat)
 case atStart=>exact ⟨0,by omega,rfl,fun j _ h=>by omega,hD (Below.refl _ _)⟩
 case round =>
  obtain ⟨i,hil,rfl,HN,HB⟩:=hrel
  by_cases hlt:i<ps.length
  ·obtain ⟨b1,o1,va,vb,vv,rfl,q1,cc,i0,i1,i2⟩:=HP.out.get i hlt
   obtain ⟨k1,k2,k3⟩:=HO.out i hlt
   have j1:(i:Int)<ps.length:=by omega
   obtain ⟨x0,x1,x2,x3,x4,x5,x6,x7,x8⟩:=cc.below q1 HB.out
   have hq:=Nat.lt_of_lt_of_le q1 HB.out.size
   have HX:=hD (HH.out i hlt HN.out)
   have HQ:Hid (ps[i].chk m=0->∀ j,(hj:j<ps.length)->j<i+1->ps[j].chk m=0):=fun h j hj hjk=>by
    rcases Nat.lt_or_ge j i with g | g
    ·exact HN.out j hj g
    ·obtain rfl:j=i:=by omega
     exact h
   have CC:=hD (refRelCheck_c ps[i].kind va vb vv ps[i].rel ps[i].c ps[i].x ps[i].y ps[i].z m ps[i].coef ps[i].vars ps[i].vs wr (i0.below HB.out) (i1.below HB.out) (i2.below HB.out) (by omega) k2 k3)
   change Hid (Calls _ _ _ _ fun e w'=>e=.returned (.int .i64 (ps[i].chk m))/\Below wr.heap.size wr w') at CC
   unfold propV at CC
   obtain ⟨b3,n3,rfl,_⟩:=SlAt.shape i0
   obtain ⟨b4,n4,rfl,_⟩:=SlAt.shape i1
   obtain ⟨b5,n5,rfl,_⟩:=SlAt.shape i2
   generalize ps[i].chk m=L at *
   clear i0 i1 i2 cc
   generalize ps[i]=p at *
   by_cases hL:L=0
   ·subst hL
    have HF:=hD (HQ.out rfl)
    go_wp2_with (go_at_call 38;(with_reducible refine CC.out.mono ?_);rintro e W1 ⟨rfl,bb⟩;have B1:=hD (bT HB.out bb);clear bb)
    exact ⟨⟨i+1,by omega,by go_num,HF,B1⟩,by simp [intOf];omega⟩
   ·have hL2:(L != 0)=true:=by simpa using hL
    have HF:=hD (HX.out hL)
    clear hL
    go_wp2_with (go_at_call 38;(with_reducible refine CC.out.mono ?_);rintro e W1 ⟨rfl,bb⟩;have B1:=hD (bT HB.out bb);clear bb)
    go_ret
    exact ⟨ret_int HF.out.symm,B1.out⟩
  ·obtain rfl:i=ps.length:=by omega
   have HF:=hD (HE.out (fun j hj=>HN.out j hj hj))
   go_wp2
   go_ret
   exact ⟨ret_int HF.out.symm,HB.out⟩
end
section
open Go.RowKit Go.ChangeShapes Go.WideShapes Go.ChangeAt

end
section
open Go.RowKit
set_option maxHeartbeats 3200000
theorem same17_c (va vb:Value) (la lb:Ds) (w:World) (ha:DsAt w va la) (hb:DsAt w vb lb) (hla:la.length<=4096) (hda:∀ d∈la,d.length<=4096) :
  Calls Tryz.prog 75 #[va,vb] w fun e w'=>e=.returned (.bool (decide (la=lb)))/\Below w.heap.size w w':=by
 obtain ⟨ao,cap,rfl,_⟩:=ha.shape
 obtain ⟨ao2,cap2,rfl,_⟩:=hb.shape
 have HA:=hD ha
 have HB:=hD hb
 have HDA:=hD hda
 clear ha hb hda
 by_cases h1:la.length=lb.length
 case neg =>
  have hne:((la.length:Int) != lb.length)=true:=by simp;omega
  have H1:=hD h1
  clear h1
  go_enter Tryz.func75,Tryz.ntmps75
  go_wp2
  go_ret
  exact ⟨ret_bool (by symm;simp;intro h;exact H1.out (by rw [h])),Below.refl _ _⟩
 case pos =>
  have H1:=hD h1
  have hne:((la.length:Int) != lb.length)=false:=by rw [h1];simp
  clear h1
  go_enter Tryz.func75,Tryz.ntmps75
  go_wp2
  go_loopw [5] (fun s wr=>∃ k:Nat,k<=la.length/\s=.int .i64 k/\Hid (la.take k=lb.take k)/\Hid (Below w.heap.size w wr)) (fun s _=>la.length - (intOf s).toNat)
  case atStart=>exact ⟨0,by omega,rfl,rfl,hD (Below.refl _ _)⟩
  case round =>
   obtain ⟨k,hk,rfl,HE,HW⟩:=hrel
   by_cases hlt:k<la.length
   ·have hlb:k<lb.length:=by have:=H1.out;omega
    obtain ⟨b1,o1,a1,c1,rfl,q1,q2,hj1,hc1,hr1⟩:=HA.out.get k hlt
    obtain ⟨b2,o2,a2,c2,rfl,q3,q4,hj2,hc2,hr2⟩:=HB.out.get k hlb
    clear hj1 hj2
    have j1:(k:Int)<la.length:=by omega
    have j2:(k:Int)<lb.length:=by omega
    rw [<- HW.out.cell (p:=⟨b1,o1+k,none⟩) q2] at hc1
    rw [<- HW.out.cell (p:=⟨b2,o2+k,none⟩) q4] at hc2
    have HS:Hid (la[k]=lb[k]->la.take (k+1)=lb.take (k+1)):=fun h=>by
     rw [List.take_succ_eq_append_getElem hlt,List.take_succ_eq_append_getElem hlb,HE.out,h]
    have HN:Hid (la[k]≠lb[k]->la≠lb):=fun h he=>by subst he;exact h rfl
    have hdl:=HDA.out _ (List.getElem_mem hlt)
    have HR1:=hD hr1
    have HR2:=hD hr2
    clear hr1 hr2
    generalize la[k]=x at *
    generalize lb[k]=y at *
    have C1:=hD ((HW.out.cell (p:=⟨b1,o1+k,none⟩) q2).symm.trans hc1)
    have C2:=hD ((HW.out.cell (p:=⟨b2,o2+k,none⟩) q4).symm.trans hc2)
    by_cases hxy:x.length=y.length
    case neg =>
     have hn2:((x.length:Int) != y.length)=true:=by simp;omega
     have HXY:=hD hxy
     clear hxy
     go_wp2
     go_quiet (fail)
     go_wp2
     go_ret
     exact ⟨ret_bool (by symm;simp;exact HN.out (fun h=>HXY.out (by rw [h]))),below_drewN HW.out _⟩
    case pos =>
     have hn2:((x.length:Int) != y.length)=false:=by rw [hxy];simp
     have HXY:=hD hxy
     clear hxy
     go_wp2
     go_quiet (fail)
     go_wp2
     have HW2:=hD (below_drewN HW.out nq)
     clear hc1 hc2
     generalize wr.drewN nq=wo at *
     go_loopw [6] (fun s wr=>∃ j:Nat,j<=x.length/\s=.int .i64 j/\Hid (x.take j=y.take j)/\Hid (Below w.heap.size w wr)) (fun s _=>x.length - (intOf s).toNat)
     case atStart=>exact ⟨0,by omega,rfl,rfl,HW2⟩
     case round =>
      obtain ⟨j,hj,rfl,HF,HV⟩:=hrel
      have hc1:=(HV.out.cell (p:=⟨b1,o1+k,none⟩) q2).trans C1.out
      have hc2:=(HV.out.cell (p:=⟨b2,o2+k,none⟩) q4).trans C2.out
      by_cases hjt:j<x.length
      ·have hjy:j<y.length:=by have:=HXY.out;omega
       obtain ⟨b3,o3,c3,he3,hcap3,hbs3,hc3⟩:=RgAt.at HR1.out (by omega)
       simp only [Value.slice.injEq,true_and] at he3
       obtain ⟨rfl,rfl⟩:=he3
       obtain ⟨b4,o4,c4,he4,hcap4,hbs4,hc4⟩:=RgAt.at HR2.out (by omega)
       simp only [Value.slice.injEq,true_and] at he4
       obtain ⟨rfl,rfl⟩:=he4
       obtain ⟨d1,d2⟩:=hc3 j hjt
       obtain ⟨d3,d4⟩:=hc4 j hjy
       rw [<- HV.out.cell (p:=⟨b3,o3+j * 2,none⟩) hbs3] at d1
       rw [<- HV.out.cell (p:=⟨b3,o3+j * 2+1,none⟩) hbs3] at d2
       rw [<- HV.out.cell (p:=⟨b4,o4+j * 2,none⟩) hbs4] at d3
       rw [<- HV.out.cell (p:=⟨b4,o4+j * 2+1,none⟩) hbs4] at d4
       have i1:(j:Int)<x.length:=by omega
       have i2:(j:Int)<y.length:=by omega
       have HS2:Hid (x[j]=y[j]->x.take (j+1)=y.take (j+1)):=fun h=>by
        rw [List.take_succ_eq_append_getElem hjt,List.take_succ_eq_append_getElem hjy,HF.out,h]
       have HN2:Hid (x[j]≠y[j]->la≠lb):=fun h=>HN.out (fun he=>by subst he;exact h rfl)
       clear hc3 hc4
       generalize x[j]=r at *
       generalize y[j]=s at *
       have f1:=neqRg r s
       have f2:=guardRg .neq
       by_cases hrs:r=s
       ·have hd:decide (r≠s)=false:=by simp [hrs]
        rw [hd] at f1
        have HRS:=hD hrs
        clear hrs hd
        go_wp2
        go_quiet (fail)
        go_wp2
        exact ⟨⟨j+1,by omega,by go_num,hD (HS2.out HRS.out),hD (below_drewN HV.out _)⟩,by simp [intOf];omega⟩
       ·have hd:decide (r≠s)=true:=by simp [hrs]
        rw [hd] at f1
        have HRS:=hD hrs
        clear hrs hd
        go_wp2
        go_quiet (fail)
        go_wp2
        go_ret
        exact ⟨ret_bool (by symm;simp;exact HN2.out HRS.out),below_drewN HV.out _⟩
      ·obtain rfl:j=x.length:=by omega
       have HXE:Hid (x=y):=by
        have h:=HF.out
        rw [List.take_length,HXY.out,List.take_length] at h
        exact h
       go_wp2
       exact ⟨⟨k+1,by omega,by go_num,hD (HS.out HXE.out),HV⟩,by simp [intOf];omega⟩
   ·obtain rfl:k=la.length:=by omega
    have HXE:Hid (la=lb):=by
     have h:=HE.out
     rw [List.take_length,H1.out,List.take_length] at h
     exact h
    go_wp2
    go_ret
    exact ⟨ret_bool (by symm;simpa using HXE.out),HW.out⟩
theorem fixCheck_c (vd vp:Value) (ds:Ds) (ps:List PL) (w:World) (hd:DsAt w vd ds) (hp:PsAt w vp ps) (hok:∀ j,(hj:j<ps.length)->ps[j].ok) :
  Calls Tryz.prog 39 #[vd,vp] w fun e w'=>e=.returned (.int .i64 (fixChk ds.length ps))/\Below w.heap.size w w':=by
 obtain ⟨a0,c0,rfl,_⟩:=DsAt.shape hd
 obtain ⟨a1,c1,rfl,_⟩:=PsAt.shape hp
 have HP:=hD hp
 have HO:=hD hok
 generalize ds.length=m at *
 clear hd hp hok
 by_cases h1:64<m
 ·have hS:Hid (fixChk m ps=34):=by show _=_;unfold fixChk;rw [if_pos (by omega)]
  go_enter Tryz.func39,Tryz.ntmps39
  go_wp2
  go_ret
  exact ⟨ret_int hS.out.symm,Below.refl _ _⟩
 by_cases h2:256<ps.length
 ·have hS:Hid (fixChk m ps=34):=by show _=_;unfold fixChk;rw [if_pos (by omega)]
  go_enter Tryz.func39,Tryz.ntmps39
  go_wp2
  go_ret
  exact ⟨ret_int hS.out.symm,Below.refl _ _⟩
 have HH:Hid (∀ k,(hk:k<ps.length)->(∀ j,(hj:j<ps.length)->j<k->ps[j].chk m=0)->ps[k].chk m≠0->fixChk m ps=ps[k].chk m):=fun k hk h hp=>fix_hit h1 h2 hk h hp
 have HE:Hid ((∀ j,(hj:j<ps.length)->ps[j].chk m=0)->fixChk m ps=0):=fun h=>fix_none h1 h2 h
 generalize fixChk m ps=R at *
 go_enter Tryz.func39,Tryz.ntmps39
 go_wp2
 go_loopw [18] (fun s wr=>∃ i:Nat,i<=ps.length/\s=.int .i64 i/\Hid (∀ j,(hj:j<ps.length)->j<i->ps[j].chk m=0)/\Hid (Below w.heap.size w wr)) (fun s _=>ps.length - (intOf s).toNat)
 case atStart=>exact ⟨0,by omega,rfl,fun j _ h=>by omega,hD (Below.refl _ _)⟩
 case round =>
  obtain ⟨i,hil,rfl,HN,HB⟩:=hrel
  by_cases hlt:i<ps.length
  ·obtain ⟨b1,o1,va,vb,vv,rfl,q1,cc,i0,i1,i2⟩:=HP.out.get i hlt
   obtain ⟨k1,k2,k3⟩:=HO.out i hlt
   have j1:(i:Int)<ps.length:=by omega
   obtain ⟨x0,x1,x2,x3,x4,x5,x6,x7,x8⟩:=cc.below q1 HB.out
   have hq:=Nat.lt_of_lt_of_le q1 HB.out.size
   have HX:=hD (HH.out i hlt HN.out)
   have HQ:Hid (ps[i].chk m=0->∀ j,(hj:j<ps.length)->j<i+1->ps[j].chk m=0):=fun h j hj hjk=>by
    rcases Nat.lt_or_ge j i with g | g
    ·exact HN.out j hj g
    ·obtain rfl:j=i:=by omega
     exact h
   have CC0:∀ W,Below wr.heap.size wr W->Calls Tryz.prog 60 #[propV ps[i].kind va vb ps[i].rel ps[i].c ps[i].x ps[i].y ps[i].z vv,.int .i64 m] W fun e w'=>e=.returned (.int .i64 (ps[i].chk m))/\Below W.heap.size W w':=fun W h =>
    check_c ps[i].kind va vb vv ps[i].rel ps[i].c ps[i].x ps[i].y ps[i].z m ps[i].coef ps[i].vars ps[i].vs W ((i0.below HB.out).below h) ((i1.below HB.out).below h) ((i2.below HB.out).below h) (by omega) k2 k3
   unfold propV at CC0
   have CC:=hD CC0
   clear CC0
   obtain ⟨b3,n3,rfl,_⟩:=SlAt.shape i0
   obtain ⟨b4,n4,rfl,_⟩:=SlAt.shape i1
   obtain ⟨b5,n5,rfl,_⟩:=SlAt.shape i2
   have HW:Hid (∀ o,Below wr.heap.size wr (wr.alloc o)):=fun o=>(Below.refl _ _).alloc (rN _) o
   generalize ps[i].chk m=L at *
   clear i0 i1 i2 cc
   generalize ps[i]=p at *
   by_cases hL:L=0
   ·subst hL
    have HF:=hD (HQ.out rfl)
    go_wp2_with (go_at_call 60;(with_reducible refine (CC.out _ (HW.out _)).mono ?_);rintro e W1 ⟨rfl,bb⟩;have B1:=hD (HB.out.trans (((HW.out _).trans (bb.mono (HW.out _).size)).mono HB.out.size));clear bb)
    exact ⟨⟨i+1,by omega,by go_num,HF,B1⟩,by simp [intOf];omega⟩
   ·have hL2:(L != 0)=true:=by simpa using hL
    have HF:=hD (HX.out hL)
    clear hL
    go_wp2_with (go_at_call 60;(with_reducible refine (CC.out _ (HW.out _)).mono ?_);rintro e W1 ⟨rfl,bb⟩;have B1:=hD (HB.out.trans (((HW.out _).trans (bb.mono (HW.out _).size)).mono HB.out.size));clear bb)
    go_ret
    exact ⟨ret_int HF.out.symm,B1.out⟩
  ·obtain rfl:i=ps.length:=by omega
   have HF:=hD (HE.out (fun j hj=>HN.out j hj hj))
   go_wp2
   go_ret
   exact ⟨ret_int HF.out.symm,HB.out⟩
theorem eqRg_c (va vb:Value) (x y:List Rg) (w:World) (ha:RgAt w va x) (hb:RgAt w vb y) (hdl:x.length<=4096) :
  Calls Tryz.prog 67 #[va,vb] w fun e w'=>e=.returned (.bool (decide (x=y)))/\Below w.heap.size w w':=by
 obtain ⟨ao,cap,rfl,_⟩:=ha.shape
 obtain ⟨ao2,cap2,rfl,_⟩:=hb.shape
 have HR1:=hD ha
 have HR2:=hD hb
 clear ha hb
 by_cases h1:x.length=y.length
 case neg =>
  have hne:((x.length:Int) != y.length)=true:=by simp;omega
  have H1:=hD h1
  clear h1
  go_enter Tryz.func67,Tryz.ntmps67
  go_wp2
  go_ret
  exact ⟨ret_bool (by symm;simp;intro h;exact H1.out (by rw [h])),Below.refl _ _⟩
 case pos =>
  have HXY:=hD h1
  have hne:((x.length:Int) != y.length)=false:=by rw [h1];simp
  clear h1
  go_enter Tryz.func67,Tryz.ntmps67
  go_wp2
  go_loopw [13] (fun s wr=>∃ j:Nat,j<=x.length/\s=.int .i64 j/\Hid (x.take j=y.take j)/\Hid (Below w.heap.size w wr)) (fun s _=>x.length - (intOf s).toNat)
  case atStart=>exact ⟨0,by omega,rfl,rfl,hD (Below.refl _ _)⟩
  case round =>
   obtain ⟨j,hj,rfl,HF,HV⟩:=hrel
   by_cases hjt:j<x.length
   ·have hjy:j<y.length:=by have:=HXY.out;omega
    obtain ⟨b3,o3,c3,he3,hcap3,hbs3,hc3⟩:=RgAt.at HR1.out (by omega)
    simp only [Value.slice.injEq,true_and] at he3
    obtain ⟨rfl,rfl⟩:=he3
    obtain ⟨b4,o4,c4,he4,hcap4,hbs4,hc4⟩:=RgAt.at HR2.out (by omega)
    simp only [Value.slice.injEq,true_and] at he4
    obtain ⟨rfl,rfl⟩:=he4
    obtain ⟨d1,d2⟩:=hc3 j hjt
    obtain ⟨d3,d4⟩:=hc4 j hjy
    rw [<- HV.out.cell (p:=⟨b3,o3+j * 2,none⟩) hbs3] at d1
    rw [<- HV.out.cell (p:=⟨b3,o3+j * 2+1,none⟩) hbs3] at d2
    rw [<- HV.out.cell (p:=⟨b4,o4+j * 2,none⟩) hbs4] at d3
    rw [<- HV.out.cell (p:=⟨b4,o4+j * 2+1,none⟩) hbs4] at d4
    have i1:(j:Int)<x.length:=by omega
    have i2:(j:Int)<y.length:=by omega
    have HS2:Hid (x[j]=y[j]->x.take (j+1)=y.take (j+1)):=fun h=>by
     rw [List.take_succ_eq_append_getElem hjt,List.take_succ_eq_append_getElem hjy,HF.out,h]
    have HN2:Hid (x[j]≠y[j]->x≠y):=fun h he=>by subst he;exact h rfl
    clear hc3 hc4
    generalize x[j]=r at *
    generalize y[j]=s at *
    have f1:=neqRg r s
    have f2:=guardRg .neq
    by_cases hrs:r=s
    ·have hd:decide (r≠s)=false:=by simp [hrs]
     rw [hd] at f1
     have HRS:=hD hrs
     clear hrs hd
     go_wp2
     go_quiet (fail)
     go_wp2
     exact ⟨⟨j+1,by omega,by go_num,hD (HS2.out HRS.out),hD (below_drewN HV.out _)⟩,by simp [intOf];omega⟩
    ·have hd:decide (r≠s)=true:=by simp [hrs]
     rw [hd] at f1
     have HRS:=hD hrs
     clear hrs hd
     go_wp2
     go_quiet (fail)
     go_wp2
     go_ret
     exact ⟨ret_bool (by symm;simp;exact HN2.out HRS.out),below_drewN HV.out _⟩
   ·obtain rfl:j=x.length:=by omega
    have HXE:Hid (x=y):=by
     have h:=HF.out
     rw [List.take_length,HXY.out,List.take_length] at h
     exact h
    go_wp2
    go_ret
    exact ⟨ret_bool (by symm;simp;exact HXE.out),HV.out⟩
end
end Go.Proofs.YtaekdgikgbdnnaaGreat
