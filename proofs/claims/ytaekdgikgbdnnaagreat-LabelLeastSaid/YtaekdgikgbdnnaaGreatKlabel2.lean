/-
  label.Choose and the reference's, walked.
-/
import Derived.Test.YtaekdgikgbdnnaaGreatKlabel1
namespace Go.Proofs.YtaekdgikgbdnnaaGreat
section
open Go.RowKit
def bestI (o:Option Nat):Int:=match o with
 | none=>-1
 | some b=>b
theorem choose_skip (ds:Ds) (vars:List Int) (sel:Int) (ws:List Int) (k:Nat) (h:sizeL (norm (domAt ds (vars.getD k 0)))<2):chooseL ds vars sel ws (k+1)=chooseL ds vars sel ws k:=by
 rw [chooseL,if_pos h]
theorem choose_new (ds:Ds) (vars:List Int) (sel:Int) (ws:List Int) (k:Nat) (h:¬ sizeL (norm (domAt ds (vars.getD k 0)))<2) (hn:chooseL ds vars sel ws k=none):chooseL ds vars sel ws (k+1)=some k:=by
 rw [chooseL,if_neg h,hn]
theorem choose_old (ds:Ds) (vars:List Int) (sel:Int) (ws:List Int) (k b:Nat) (h:¬ sizeL (norm (domAt ds (vars.getD k 0)))<2) (hn:chooseL ds vars sel ws k=some b) :
  chooseL ds vars sel ws (k+1)=if rankL sel ws (domAt ds (vars.getD k 0)) k<rankL sel ws (domAt ds (vars.getD b 0)) b then some k else some b:=by
 rw [chooseL,if_neg h,hn]
theorem norm_nil:norm ([]:List Rg)=[]:=norm_of_normal (show Normal [] from trivial)
set_option maxRecDepth 100000
set_option maxHeartbeats 3200000
theorem choose_c (vds vv vw:Value) (sel ord br:Int) (ds:Ds) (vars ws:List Int) (w:World) (hd:DsAt w vds ds) (hv:IsAt w vv vars) (hw:IsAt w vw ws) (hdl:∀ d∈ds,d.length<=4096) (hs:sel=0\/sel=1\/sel=2\/sel=3\/sel=4) (hvl:vars.length<=4096) :
  Calls Tryz.prog 44 #[vds,vv,.agg #[.int .i64 sel,.int .i64 ord,.int .i64 br,vw]] w fun e w'=>e=.returned (.int .i64 (bestI (chooseL ds vars sel ws vars.length)))/\Below w.heap.size w w':=by
 obtain ⟨a0,c0,rfl,_⟩:=hd.shape
 obtain ⟨a1,c1,rfl,_⟩:=hv.shape'
 obtain ⟨a2,c2,rfl,_⟩:=hw.shape'
 have HZ:=hD (boxZ w (.int .i64 sel) (.int .i64 ord) (.int .i64 br) (.slice a2 ws.length c2) 28)
 have HB:=hD (BoxL.mk' w #[.int .i64 sel,.int .i64 ord,.int .i64 br,.slice a2 ws.length c2] 28)
 have HD:=hD hd
 have HV:=hD hv
 have HDL:=hD hdl
 have CR:=hD (fun vd (k:Nat) d W (h:Below w.heap.size w W) (h1:RgAt W vd d) (h2:d.length<=4096) (h3:k<=4096)=>rank_c vd _ sel ord br k d ws W h1 h2 (hw.below h) h3 hs)
 clear hd hv hw hdl hs
 go_enter Tryz.func44,Tryz.ntmps44
 go_wp2
 generalize hW0:(w.alloc (.cells #[.int .i64 sel,.int .i64 ord,.int .i64 br,.slice a2 ws.length c2] 28))=W0 at *
 clear hW0
 go_loopw [7,8,14] (fun b l s wr=>∃ k:Nat,∃ z:Int,k<=vars.length/\s=.int .i64 k/\b=.int .i64 (bestI (chooseL ds vars sel ws k))/\l=.int .i64 z/\Hid (∀ j,chooseL ds vars sel ws k=some j->z=rankL sel ws (domAt ds (vars.getD j 0)) j)/\Hid (Below w.heap.size w wr)/\Hid (BoxL wr w.heap.size [.int .i64 sel,.int .i64 ord,.int .i64 br,.slice a2 ws.length c2])) (fun _ _ s _=>vars.length - (intOf s).toNat)
 case atStart=>exact ⟨0,0,by omega,rfl,rfl,rfl,fun j h=>by simp [chooseL] at h,HZ,HB⟩
 case round =>
  clear HZ HB
  obtain ⟨k,z,hk,rfl,rfl,rfl,HR,HB,HL⟩:=hrel
  have hbl:=HL.out.lt (by simp)
  by_cases hlt:k<vars.length
  ·obtain ⟨b1,o1,rfl,q1,q2,x1⟩:=HV.out.get' k hlt
   have j1:(k:Int)<vars.length:=by omega
   rw [<- HB.out.cell (p:=⟨b1,o1+k,none⟩) q2] at x1
   have hgv:vars.getD k 0=vars[k]:=by rw [List.getD_eq_getElem?_getD,List.getElem?_eq_getElem hlt];rfl
   have HS:=hD (choose_skip ds vars sel ws k)
   have HN:=hD (choose_new ds vars sel ws k)
   have HO:=hD (choose_old ds vars sel ws k)
   rw [hgv] at HS HN HO
   have HGV:=hD hgv
   clear hgv
   generalize vars[k]=v at *
   by_cases h1:v<0
   ·have hsk:Hid (chooseL ds vars sel ws (k+1)=chooseL ds vars sel ws k):=HS.out (by unfold domAt;rw [if_pos h1,norm_nil];simp [sizeL])
    go_wp2
    exact ⟨⟨k+1,z,by omega,by go_num,by rw [hsk.out],rfl,fun j h=>HR.out j (by rw [<- hsk.out];exact h),HB,HL⟩,by simp [intOf];omega⟩
   obtain ⟨n,rfl⟩:=Int.eq_ofNat_of_zero_le (show 0<=v by omega)
   by_cases h2:n<ds.length
   case neg =>
    have hsk:Hid (chooseL ds vars sel ws (k+1)=chooseL ds vars sel ws k):=HS.out (by unfold domAt;rw [if_neg h1,List.getD_eq_getElem?_getD,List.getElem?_eq_none (by simp;omega)];simp [norm_nil,sizeL])
    have h2':(ds.length:Int)<=n:=by omega
    go_wp2
    exact ⟨⟨k+1,z,by omega,by go_num,by rw [hsk.out],rfl,fun j h=>HR.out j (by rw [<- hsk.out];exact h),HB,HL⟩,by simp [intOf];omega⟩
   case pos =>
    obtain ⟨b2,o2,a3,c3,rfl,q3,q4,_,x2,hr2⟩:=HD.out.get n h2
    have j2:(n:Int)<ds.length:=by omega
    rw [<- HB.out.cell (p:=⟨b2,o2+n,none⟩) q4] at x2
    have hda:domAt ds n=ds[n]:=by unfold domAt;rw [if_neg h1,Int.toNat_natCast,List.getD_eq_getElem?_getD,List.getElem?_eq_getElem h2];rfl
    rw [hda] at HS HN HO
    have HDA:Hid (domAt ds (vars.getD k 0)=ds[n]):=by show _=_;rw [HGV.out];exact hda
    have hl:=HDL.out _ (List.getElem_mem h2)
    have HR2:=hD (hr2.below HB.out)
    clear hr2 hda
    generalize ds[n]=d at *
    have CS:=hD (size_c _ d wr HR2.out hl)
    by_cases h3:sizeL (norm d)<2
    ·have hsk:=hD (HS.out h3)
     generalize sizeL (norm d)=sz at *
     go_wp2_with (go_at_call 68;(with_reducible refine CS.out.mono ?_);rintro e W2 ⟨rfl,bb⟩;have Q2:=hD bb;clear bb)
     exact ⟨⟨k+1,z,by omega,by go_num,by rw [hsk.out],rfl,fun j h=>HR.out j (by rw [<- hsk.out];exact h),hD (bT HB.out Q2.out),hD (HL.out.below Q2.out hbl)⟩,by simp [intOf];omega⟩
    ·have HN2:=hD (HN.out h3)
     have HO2:=hD (fun b=>HO.out b h3)
     have hk4:k<=4096:=by omega
     clear HS HN HO
     generalize sizeL (norm d)=sz at *
     obtain ⟨rk,hrk⟩:∃ rk,rk=rankL sel ws d k:=⟨_,rfl⟩
     have HRK:=hD hrk
     have CR2:Hid (∀ W,Below wr.heap.size wr W->Calls Tryz.prog 69 #[.slice a3 d.length c3,.int .i64 k,.agg #[.int .i64 sel,.int .i64 ord,.int .i64 br,.slice a2 ws.length c2]] W fun e w'=>e=.returned (.int .i64 rk)/\Below W.heap.size W w'):=fun W h=>by
      rw [hrk]
      exact CR.out _ k d W (bT HB.out h) (HR2.out.below h) hl hk4
     clear hrk
     go_wp2_with (go_at_call 68;(with_reducible refine CS.out.mono ?_);rintro e W2 ⟨rfl,bb⟩;have Q2:=hD bb;clear bb)
     have k1:=qb_cell ((Q2.out.cell (p:=⟨b2,o2+n,none⟩) (World.block_lt_of_cell? wr _ x2)).trans x2)
     have k2:=qb_cell (((HL.out.below Q2.out hbl).get 0 rfl).1)
     have k3:=qb_cell (((HL.out.below Q2.out hbl).get 1 rfl).1)
     have k4:=qb_cell (((HL.out.below Q2.out hbl).get 2 rfl).1)
     have k5:=qb_cell (((HL.out.below Q2.out hbl).get 3 rfl).1)
     have CR3:Hid (∀ g:QG W2,Calls Tryz.prog 69 #[.slice a3 d.length c3,.int .i64 k,.agg #[.int .i64 sel,.int .i64 ord,.int .i64 br,.slice a2 ws.length c2]] g.1 fun e w'=>e=.returned (.int .i64 rk)/\Below g.1.heap.size g.1 w'):=fun g=>CR2.out g.1 (bT Q2.out g.2)
     refine wp_region_below (by kernel_rfl) (by kernel_rfl) ?_
     repeat (go_big_quiet_step ((go_at_call 69;exact qb_call _ (CR3.out _))))
     refine wpQuiet_nil ?_
     intro w1 hw1
     have Q3:=hD (bT Q2.out hw1.below)
     clear k1 k2 k3 k4 k5 hw1
     cases hch:chooseL ds vars sel ws k with
     | none =>
      have HC:=hD (HN2.out hch)
      clear hch
      rw [show bestI none=-1 from rfl]
      go_wp2
      refine ⟨⟨k+1,rk,by omega,by go_num,by rw [HC.out];rfl,rfl,fun j h=>?_,hD (bT HB.out Q3.out),hD (HL.out.below Q3.out hbl)⟩,by simp [intOf];omega⟩
      rw [HC.out] at h;cases h
      rw [HDA.out];exact HRK.out
     | some b =>
      have hc:=HO2.out b hch
      rw [<- HRK.out,<- HR.out b hch] at hc
      have hb:=chooseL_lt ds vars sel ws k b hch
      have HZ:=hD (HR.out b hch)
      rw [show bestI (some b)=(b:Int) from rfl]
      have hb4:(b:Int)<=4096:=by omega
      clear hch
      by_cases hz:rk<z
      ·rw [if_pos hz] at hc
       have HC:=hD hc
       clear hc
       go_wp2
       refine ⟨⟨k+1,rk,by omega,by go_num,by rw [HC.out];rfl,rfl,fun j h=>?_,hD (bT HB.out Q3.out),hD (HL.out.below Q3.out hbl)⟩,by simp [intOf];omega⟩
       rw [HC.out] at h;cases h
       rw [HDA.out];exact HRK.out
      ·rw [if_neg hz] at hc
       have HC:=hD hc
       clear hc
       go_wp2
       refine ⟨⟨k+1,z,by omega,by go_num,by rw [HC.out];rfl,rfl,fun j h=>?_,hD (bT HB.out Q3.out),hD (HL.out.below Q3.out hbl)⟩,by simp [intOf];omega⟩
       rw [HC.out] at h;cases h
       exact HZ.out
  ·obtain rfl:k=vars.length:=by omega
   go_wp2
   go_ret
   exact ⟨rfl,HB.out⟩
theorem refChoose_c (vds vv vw:Value) (sel ord br:Int) (ds:Ds) (vars ws:List Int) (w:World) (hd:DsAt w vds ds) (hv:IsAt w vv vars) (hw:IsAt w vw ws) (hdl:∀ d∈ds,d.length<=4096) (hs:sel=0\/sel=1\/sel=2\/sel=3\/sel=4) (hvl:vars.length<=4096) :
  Calls Tryz.prog 50 #[vds,vv,.agg #[.int .i64 sel,.int .i64 ord,.int .i64 br,vw]] w fun e w'=>e=.returned (.int .i64 (bestI (chooseL ds vars sel ws vars.length)))/\Below w.heap.size w w':=by
 have hdom:∀ v,(domAt ds v).length<=4096:=fun v=>by
  unfold domAt
  split
  ·simp
  ·rw [List.getD_eq_getElem?_getD]
   cases h:ds[v.toNat]? with
   | none=>simp
   | some e=>exact hdl e (List.mem_of_getElem? h)
 have CD:Hid (∀ v,∃ ao cap,(∀ W,Below w.heap.size w W->RgAt W (.slice ao (domAt ds v).length cap) (domAt ds v))/\∀ W,Below w.heap.size w W->Calls Tryz.prog 76 #[vds,.int .i64 v] W fun e w'=>e=.returned (.slice ao (domAt ds v).length cap)/\W=w'):=fun v=>by
  obtain ⟨ao,cap,h1,h2⟩:=domain_c vds v ds w hd
  exact ⟨ao,cap,fun W h=>h1.below h,h2⟩
 have CW:=hD (fun (k:Nat) W (h:Below w.heap.size w W) (h3:k<=4096)=>labWeight_c _ sel ord br k ws W (hw.below h) h3)
 obtain ⟨a0,c0,rfl,_⟩:=hd.shape
 obtain ⟨a1,c1,rfl,_⟩:=hv.shape'
 obtain ⟨a2,c2,rfl,_⟩:=hw.shape'
 have HZ:=hD (boxZ w (.int .i64 sel) (.int .i64 ord) (.int .i64 br) (.slice a2 ws.length c2) 28)
 have HB:=hD (BoxL.mk' w #[.int .i64 sel,.int .i64 ord,.int .i64 br,.slice a2 ws.length c2] 28)
 have HV:=hD hv
 have HDL:=hD hdom
 have HS5:=hD hs
 clear hd hv hw hdl hdom hs
 go_enter Tryz.func50,Tryz.ntmps50
 go_wp2
 generalize hW0:(w.alloc (.cells #[.int .i64 sel,.int .i64 ord,.int .i64 br,.slice a2 ws.length c2] 28))=W0 at *
 clear hW0
 go_loopw [7,8] (fun b s wr=>∃ k:Nat,k<=vars.length/\s=.int .i64 k/\b=.int .i64 (bestI (chooseL ds vars sel ws k))/\Hid (Below w.heap.size w wr)/\Hid (BoxL wr w.heap.size [.int .i64 sel,.int .i64 ord,.int .i64 br,.slice a2 ws.length c2])) (fun _ s _=>vars.length - (intOf s).toNat)
 case atStart=>exact ⟨0,by omega,rfl,rfl,HZ,HB⟩
 case round =>
  clear HZ HB
  obtain ⟨k,hk,rfl,rfl,HB,HL⟩:=hrel
  have hbl:=HL.out.lt (by simp)
  by_cases hlt:k<vars.length
  ·obtain ⟨b1,o1,rfl,q1,q2,x1⟩:=HV.out.get' k hlt
   have j1:(k:Int)<vars.length:=by omega
   rw [<- HB.out.cell (p:=⟨b1,o1+k,none⟩) q2] at x1
   have hgv:vars.getD k 0=vars[k]:=by rw [List.getD_eq_getElem?_getD,List.getElem?_eq_getElem hlt];rfl
   have HS:=hD (choose_skip ds vars sel ws k)
   have HN:=hD (choose_new ds vars sel ws k)
   have HO:=hD (choose_old ds vars sel ws k)
   rw [hgv] at HS HN HO
   clear hgv
   generalize vars[k]=v at *
   obtain ⟨a3,c3,hr3,hc3⟩:=CD.out v
   have hl3:=HDL.out v
   have CD3:=hD (hc3 wr HB.out)
   have R3:=hD (fun W h=>hr3 W h)
   have CS:=hD (refSize_c _ _ wr (hr3 wr HB.out) hl3)
   clear hr3 hc3
   generalize domAt ds v=d at *
   by_cases h3:sizeL (norm d)<2
   ·have hsk:=hD (HS.out h3)
    generalize sizeL (norm d)=sz at *
    go_wp2_with (first
     | (go_at_call 76;(with_reducible refine CD3.out.mono ?_);rintro e w' ⟨rfl,rfl⟩)
     | (go_at_call 28;(with_reducible refine CS.out.mono ?_);rintro e W2 ⟨rfl,bb⟩;have Q2:=hD bb;clear bb))
    exact ⟨⟨k+1,by omega,by go_num,by rw [hsk.out],hD (bT HB.out Q2.out),hD (HL.out.below Q2.out hbl)⟩,by simp [intOf];omega⟩
   ·have HN2:=hD (HN.out h3)
    have HO2:=hD (fun b=>HO.out b h3)
    clear HS HN HO
    generalize hsz:sizeL (norm d)=sz at CS h3
    clear hsz
    cases hch:chooseL ds vars sel ws k with
    | none =>
     have HC:=hD (HN2.out hch)
     clear hch
     rw [show bestI none=-1 from rfl]
     go_wp2_with (first
      | (go_at_call 76;(with_reducible refine CD3.out.mono ?_);rintro e w' ⟨rfl,rfl⟩)
      | (go_at_call 28;(with_reducible refine CS.out.mono ?_);rintro e W2 ⟨rfl,bb⟩;have Q2:=hD bb;clear bb))
     go_quiet (fail)
     go_wp2
     exact ⟨⟨k+1,by omega,by go_num,by rw [HC.out];rfl,hD (below_drewN (bT HB.out Q2.out) _),hD (HL.out.below (below_drewN Q2.out _) hbl)⟩,by simp [intOf];omega⟩
    | some b =>
     have hb:=chooseL_lt ds vars sel ws k b hch
     have hbv:b<vars.length:=by omega
     obtain ⟨b4,o4,he4,q3,q4,x4⟩:=HV.out.get' b hbv
     simp only [Option.some.injEq,Addr.mk.injEq,and_true] at he4
     obtain ⟨rfl,rfl⟩:=he4
     have hgb:vars.getD b 0=vars[b]:=by rw [List.getD_eq_getElem?_getD,List.getElem?_eq_getElem hbv];rfl
     have hc:=HO2.out b hch
     rw [hgb] at hc
     have hbet:=better_rank sel ws d (domAt ds vars[b]) k b
     have HCC:=hD hc
     obtain ⟨a5,c5,hr5,hc5⟩:=CD.out vars[b]
     have hl5:=HDL.out vars[b]
     have j6:(b:Int)<vars.length:=by omega
     have j7:(b:Int)<=4096:=by omega
     have j8:decide ((b:Int)<0)=false:=decide_eq_false (by omega)
     rw [show bestI (some b)=(b:Int) from rfl]
     clear hch hc hgb
     generalize vars[b]=vb at *
     have CB:Hid (∀ W,Below w.heap.size w W->Calls Tryz.prog 77 #[.slice a3 d.length c3,.slice a5 (domAt ds vb).length c5,.int .i64 sel] W fun e w'=>e=.returned (.bool (betterL sel d (domAt ds vb)))/\Below W.heap.size W w'):=fun W h=>better_c _ _ sel d _ W (R3.out W h) (hr5 W h) hl3 hl5 HS5.out
     have CD5:=hD hc5
     have CWk:=hD (fun W h=>CW.out k W h (by omega))
     have CWb:=hD (fun W h=>CW.out b W h (by omega))
     clear hr5 hc5 hl5
     generalize rankL sel ws (domAt ds vb) b=rb at *
     generalize domAt ds vb=db at *
     generalize betterL sel d db=bt at *
     generalize rankL sel ws d k=rk at *
     generalize ws.getD k 0=wk at *
     generalize ws.getD b 0=wb at *
     have HBT:=hD hbet
     clear hbet
     go_wp2_with (first
      | (go_at_call 76;(with_reducible refine CD3.out.mono ?_);rintro e w' ⟨rfl,rfl⟩)
      | (go_at_call 28;(with_reducible refine CS.out.mono ?_);rintro e W2 ⟨rfl,bb⟩;have Q2:=hD bb;clear bb))
     have B2:=hD (bT HB.out Q2.out)
     have k1:=qb_cell ((B2.out.cell (p:=⟨b1,o1+b,none⟩) q4).trans x4)
     have k2:=qb_cell (((HL.out.below Q2.out hbl).get 0 rfl).1)
     have k3:=qb_cell (((HL.out.below Q2.out hbl).get 1 rfl).1)
     have k4:=qb_cell (((HL.out.below Q2.out hbl).get 2 rfl).1)
     have k5:=qb_cell (((HL.out.below Q2.out hbl).get 3 rfl).1)
     have D1:Hid (∀ g:QG W2,Calls Tryz.prog 76 #[.slice a0 ds.length c0,.int .i64 vb] g.1 fun e w'=>e=.returned (.slice a5 db.length c5)/\g.1=w'):=fun g=>CD5.out g.1 (bT B2.out g.2)
     have D2:Hid (∀ g:QG W2,Calls Tryz.prog 77 #[.slice a3 d.length c3,.slice a5 db.length c5,.int .i64 sel] g.1 fun e w'=>e=.returned (.bool bt)/\Below g.1.heap.size g.1 w'):=fun g=>CB.out g.1 (bT B2.out g.2)
     have D3:Hid (∀ g:QG W2,Calls Tryz.prog 78 #[.agg #[.int .i64 sel,.int .i64 ord,.int .i64 br,.slice a2 ws.length c2],.int .i64 k] g.1 fun e w'=>e=.returned (.int .i64 wk)/\Below g.1.heap.size g.1 w'):=fun g=>CWk.out g.1 (bT B2.out g.2)
     have D4:Hid (∀ g:QG W2,Calls Tryz.prog 78 #[.agg #[.int .i64 sel,.int .i64 ord,.int .i64 br,.slice a2 ws.length c2],.int .i64 b] g.1 fun e w'=>e=.returned (.int .i64 wb)/\Below g.1.heap.size g.1 w'):=fun g=>CWb.out g.1 (bT B2.out g.2)
     clear CB CD5 CWk CWb
     cases bt
     ·by_cases h4:sel=4
      ·subst h4
       have hR:decide (wk<wb)=decide (rk<rb):=by have:=HBT.out;simpa using this
       by_cases hw:wk<wb
       ·have hr:rk<rb:=by simpa [hw] using hR.symm
        have HR:=hD (show chooseL ds vars 4 ws (k+1)=some k by rw [HCC.out,if_pos hr])
        clear hR hr
        refine wp_region_below (by kernel_rfl) (by kernel_rfl) ?_
        repeat (go_big_quiet_step (first | (go_at_call 76;with_reducible exact qb_same _ (D1.out _)) | (go_at_call 77;with_reducible exact qb_call _ (D2.out _)) | (go_at_call 78;with_reducible exact qb_call _ (D3.out _)) | (go_at_call 78;with_reducible exact qb_call _ (D4.out _))))
        refine wpQuiet_nil ?_
        intro w1 hw1
        have Q3:=hD (bT Q2.out hw1.below)
        clear k1 k2 k3 k4 k5 hw1
        go_wp2
        exact ⟨⟨k+1,by omega,by go_num,by rw [HR.out];rfl,hD (bT HB.out Q3.out),hD (HL.out.below Q3.out hbl)⟩,by simp [intOf];omega⟩
       ·have hr:¬ rk<rb:=by simpa [hw] using hR.symm
        have HR:=hD (show chooseL ds vars 4 ws (k+1)=some b by rw [HCC.out,if_neg hr])
        clear hR hr
        refine wp_region_below (by kernel_rfl) (by kernel_rfl) ?_
        repeat (go_big_quiet_step (first | (go_at_call 76;with_reducible exact qb_same _ (D1.out _)) | (go_at_call 77;with_reducible exact qb_call _ (D2.out _)) | (go_at_call 78;with_reducible exact qb_call _ (D3.out _)) | (go_at_call 78;with_reducible exact qb_call _ (D4.out _))))
        refine wpQuiet_nil ?_
        intro w1 hw1
        have Q3:=hD (bT Q2.out hw1.below)
        clear k1 k2 k3 k4 k5 hw1
        go_wp2
        exact ⟨⟨k+1,by omega,by go_num,by rw [HR.out];rfl,hD (bT HB.out Q3.out),hD (HL.out.below Q3.out hbl)⟩,by simp [intOf];omega⟩
      ·have hr:¬ rk<rb:=by have:=HBT.out;simpa [h4] using this
       have h4':(sel==4)=false:=beq_eq_false_iff_ne.2 h4
       have HR:=hD (show chooseL ds vars sel ws (k+1)=some b by rw [HCC.out,if_neg hr])
       clear hr h4
       refine wp_region_below (by kernel_rfl) (by kernel_rfl) ?_
       repeat (go_big_quiet_step (first | (go_at_call 76;with_reducible exact qb_same _ (D1.out _)) | (go_at_call 77;with_reducible exact qb_call _ (D2.out _))))
       refine wpQuiet_nil ?_
       intro w1 hw1
       have Q3:=hD (bT Q2.out hw1.below)
       clear k1 k2 k3 k4 k5 hw1
       go_wp2
       exact ⟨⟨k+1,by omega,by go_num,by rw [HR.out];rfl,hD (bT HB.out Q3.out),hD (HL.out.below Q3.out hbl)⟩,by simp [intOf];omega⟩
     ·have hr:rk<rb:=by have:=HBT.out;simpa using this.symm
      have HR:=hD (show chooseL ds vars sel ws (k+1)=some k by rw [HCC.out,if_pos hr])
      clear hr
      refine wp_region_below (by kernel_rfl) (by kernel_rfl) ?_
      repeat (go_big_quiet_step (first | (go_at_call 76;with_reducible exact qb_same _ (D1.out _)) | (go_at_call 77;with_reducible exact qb_call _ (D2.out _))))
      refine wpQuiet_nil ?_
      intro w1 hw1
      have Q3:=hD (bT Q2.out hw1.below)
      clear k1 k2 k3 k4 k5 hw1
      go_wp2
      exact ⟨⟨k+1,by omega,by go_num,by rw [HR.out];rfl,hD (bT HB.out Q3.out),hD (HL.out.below Q3.out hbl)⟩,by simp [intOf];omega⟩
  ·obtain rfl:k=vars.length:=by omega
   go_wp2
   go_ret
   exact ⟨rfl,HB.out⟩
end
end Go.Proofs.YtaekdgikgbdnnaaGreat
