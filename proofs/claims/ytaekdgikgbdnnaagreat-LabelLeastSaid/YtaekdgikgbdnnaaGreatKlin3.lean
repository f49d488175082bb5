/-
  lin.parts, lin.Sums, lin.Says, walked.
  lin.Sums, lin.Says, walked.
  PLAIN LAWS of a set's places and of the part of a set whose multiples are at most a limit. No program.
  lin.first, lin.atMost, walked.
  lin.atMost, walked.
  lin.narrowed, lin.Says, walked.
-/
import Derived.Test.YtaekdgikgbdnnaaGreatKlin1
import Derived.Test.YtaekdgikgbdnnaaGreatKlin2
import Derived.Test.YtaekdgikgbdnnaaGreatKlib1
import Derived.Test.YtaekdgikgbdnnaaGreatKdom3
import Derived.Laws.EntriesVeiled
namespace Go.Proofs.YtaekdgikgbdnnaaGreat
section
open Go.RowKit
theorem Tryz.infoSpan:(Tryz.prog.info? 198).map (fun i=>(i.zero,i.size,i.bytes))=some (some (.agg #[.int .i64 0,.int .i64 0]),2,16):=by kernel_rfl
def RetP (ds:Ds) (ps:Ps) (w:World) (e:Ending) (w':World):Prop :=
 Below w.heap.size w w' /\
  ((allOk ds ps=true/\∃ ao cap,e=.returned (.tuple #[.slice ao ps.length cap,.agg #[.int .i64 (loS ds ps),.int .i64 (hiS ds ps)],.bool true])/\RgAt w' (.slice ao ps.length cap) (spans ds ps)) \/
   (allOk ds ps=false/\e=.returned (.tuple #[.slice none 0 0,.agg #[.int .i64 0,.int .i64 0],.bool false])))
set_option maxRecDepth 100000
set_option maxHeartbeats 1600000
theorem parts_c (va vb vds:Value) (rel c:Int) (coef vars:List Int) (ds:Ds) (w:World) (h0:IsAt w va coef) (h1:IsAt w vb vars) (hd:DsAt w vds ds) (hg:GoodL coef vars ds) :
  Calls Tryz.prog 158 #[.agg #[va,vb,.int .i64 rel,.int .i64 c],vds] w (RetP ds (coef.zip vars) w):=by
 obtain ⟨i0,hi,hz0,hz1,hz2⟩:=info_parts Tryz.infoSpan
 obtain ⟨a0,c0,rfl,_⟩:=IsAt.shape h0
 obtain ⟨a1,c1,rfl,_⟩:=IsAt.shape h1
 obtain ⟨a2,c2,rfl,_⟩:=hd.shape
 have HC:=hD (row_facts h0 h1 hd hg)
 have HB:=hD (sums_bnd hg)
 have HS:=hD (sums_step hg)
 have hn:=hD hg.len
 have hn2:=hD hg.zip_len
 have hn16:=hg.le16
 clear h0 h1 hd
 generalize hps:coef.zip vars=ps at *
 clear hps
 go_enter Tryz.func158,Tryz.ntmps158
 go_wp2
 have BZ:Hid (Below w.heap.size w (((w.alloc (.cells #[.slice a0 coef.length c0,.slice a1 vars.length c1,.int .i64 rel,.int .i64 c] 65)).alloc (.cells #[.int .i64 0,.int .i64 0] 198)).alloc (.cells #[.int .i64 0,.int .i64 0] 198))):=by
  show Below _ _ _
  go_grown
 go_loopw [7,16] (fun o s wr=>∃ k:Nat,k<=ps.length/\s=.int .i64 k/\wr.ownsRow (w.heap.size+1+1+1) 198 2 o k (cellsR (spans ds (ps.take k)))/\Below w.heap.size w wr/\Box2 wr (w.heap.size+1+1) (.int .i64 (loS ds (ps.take k))) (.int .i64 (hiS ds (ps.take k)))/\Box2 wr (w.heap.size+1) (.int .i64 0) (.int .i64 0)
   /\ Hid (wr.cell? ⟨w.heap.size,0,none⟩=some (.slice a0 coef.length c0)/\wr.cell? ⟨w.heap.size,1,none⟩=some (.slice a1 vars.length c1))/\Hid (allOk ds (ps.take k)=true)) (fun _ s _=>ps.length - (intOf s).toNat)
 case atStart=>exact ⟨0,by omega,rfl,World.ownsRow_nil _ _ _ _,BZ.out,(by rw [show loS ds (ps.take 0)=0 by simp [loS],show hiS ds (ps.take 0)=0 by simp [hiS]];exact ⟨by go_simp,by go_simp,by go_simp,by go_simp⟩),⟨by go_simp,by go_simp,by go_simp,by go_simp⟩,hD ⟨by go_simp,by go_simp⟩,rfl⟩
 case round =>
  obtain ⟨k,hk,rfl,hown,hbel,hbx,hrx,HL,HA⟩:=hrel
  have HB1:=hD hbel
  have HX:=hD hbx
  have HR:=hD hrx
  have hle:=hbel.size
  have hxl:=hbx.lt
  clear hbel hbx hrx
  by_cases hlt:k<ps.length
  ·have hltv:k<vars.length:=by have:=hn.out;have:=hn2.out;omega
   obtain ⟨b0,o0,b1,o1',b2,o2,n,ao,cap,cf,d,⟨rfl,rfl,rfl⟩,⟨l0,l1,l2⟩,⟨q0,q1,q2⟩,hnn,x0,x1,x2,x3,e1,e2,hdl,hc1,hc2⟩:=HC.out k hlt
   have j1:(k:Int)<coef.length:=by have:=hn.out;omega
   have j2:(k:Int)<vars.length:=by omega
   have j3:(n:Int)<ds.length:=by omega
   obtain ⟨t1,t2,t3,t4,t5⟩:=HS.out k hlt cf n d e1 e2
   have T1:=hD t1;have T2:=hD t2;have T3:=hD t3;have T4:=hD t4;have T5:=hD t5
   have hb1:=HB.out k
   have hb2:=loT_bnd cf d ⟨hc1,hc2⟩
   obtain ⟨⟨y1,y2⟩,⟨y3,y4⟩⟩:=hb1
   obtain ⟨⟨y5,y6⟩,⟨y7,y8⟩⟩:=hb2
   rw [<- HB1.out.cell (p:=⟨b0,o0+k,none⟩) q0] at x0
   rw [<- HB1.out.cell (p:=⟨b1,o1'+k,none⟩) q1] at x1
   rw [<- HB1.out.cell (p:=⟨b2,o2+n,none⟩) q2] at x2
   have CP:Hid (∀ W,Below wr.heap.size wr W->Calls Tryz.prog 161 #[.int .i64 cf,.slice ao d.length cap] W fun e w'=>e=.returned (.tuple #[.agg #[.int .i64 (loT cf d),.int .i64 (hiT cf d)],.bool (okT d)])/\Below W.heap.size W w') :=
    fun W h=>part_c _ cf d W (x3.below (HB1.out.trans (h.mono hle))) hdl ⟨hc1,hc2⟩
   obtain ⟨z0,z1⟩:=HL.out
   clear t1 t2 t3 t4 t5 x3 e1 e2
   generalize loT cf d=tlo at *
   generalize hiT cf d=thi at *
   generalize okT d=ok at *
   generalize spans ds (ps.take k)=O at *
   generalize loS ds (ps.take k)=slo at *
   generalize hiS ds (ps.take k)=shi at *
   have HSW:Hid (∀ W',Below wr.heap.size wr W'->W'.cell? ⟨w.heap.size,0,none⟩=some (.slice (some ⟨b0,o0,none⟩) coef.length c0)/\W'.cell? ⟨w.heap.size,1,none⟩=some (.slice (some ⟨b1,o1',none⟩) vars.length c1)/\W'.cell? ⟨b0,o0+k,none⟩=some (.int .i64 cf)/\W'.cell? ⟨b1,o1'+k,none⟩=some (.int .i64 (n:Int))/\W'.cell? ⟨b2,o2+n,none⟩=some (.slice ao d.length cap)):=fun W' h =>
    ⟨(h.cell (p:=⟨w.heap.size,0,none⟩) (by simp;omega)).trans z0,(h.cell (p:=⟨w.heap.size,1,none⟩) (by simp;omega)).trans z1,(h.cell (p:=⟨b0,o0+k,none⟩) (by simp;omega)).trans x0,(h.cell (p:=⟨b1,o1'+k,none⟩) (by simp;omega)).trans x1,(h.cell (p:=⟨b2,o2+n,none⟩) (by simp;omega)).trans x2⟩
   go_wp2
   go_upto_region 6 with fail
   go_cut [10,11] (fun p q wx=>∃ B,p=.pointer (some ⟨B,0,none⟩)/\q=.bool ok/\wr.heap.size<=B/\Box2 wx B (.int .i64 tlo) (.int .i64 thi)/\Below wr.heap.size wr wx)
   case first =>
    go_region_held3 (fun W'=>W'.cell? ⟨w.heap.size,0,none⟩=some (.slice (some ⟨b0,o0,none⟩) coef.length c0)/\W'.cell? ⟨w.heap.size,1,none⟩=some (.slice (some ⟨b1,o1',none⟩) vars.length c1)/\W'.cell? ⟨b0,o0+k,none⟩=some (.int .i64 cf)/\W'.cell? ⟨b1,o1'+k,none⟩=some (.int .i64 (n:Int))/\W'.cell? ⟨b2,o2+n,none⟩=some (.slice ao d.length cap)) ((refine HSW.out _ ?_;go_grown))
     (first | (go_at_call 161;refine (CP.out _ ?_).mono ?_;(·go_grown);rintro e W1 ⟨rfl,bb⟩;have bw:Below wr.heap.size wr W1:=Below.trans (by go_grown) (bb.mono (by simp));have bwl:=bw.size;(try (obtain ⟨q0,q1,q2,q3⟩:=Box2.later bb;have QB:=hD (Box2.later bb)));clear bb))
    ·go_wp2_with fail
     go_meet
     exact ⟨W1.heap.size,rfl,rfl,bwl,Box2.mk' _ _ _ _,by go_grown⟩
    ·go_wp2_with fail
     go_meet
     exact ⟨wr.heap.size,rfl,rfl,rN _,(QB.out.set0 _).set1 _,by go_grown⟩
   case rest =>
    obtain ⟨B,rfl,rfl,hB,hBx,hbW⟩:=hcut
    have hbl:=hbW.size
    have HX2:=hD (HX.out.past hbW)
    have HR2:=hD (HR.out.past hbW)
    have HB2:=hD (HB1.out.trans (hbW.mono hle))
    have hown2:=own_below hown hbW
    have HW:=hD hbW
    have NE:=own_far hown hB
    have PB:=hD hBx
    obtain ⟨p0,p1,_,_⟩:=hBx
    clear hown hbW HSW CP
    cases ok
    ·obtain ⟨r0,r1,r2,r3⟩:=HR2.out
     go_wp2
     have s0:=(HR2.out.set0 (.int .i64 0)).c0
     have s1:=((HR2.out.set0 (.int .i64 0)).set1 (.int .i64 0)).c1
     (try simp only [Exit.inBlock,Exit.then])
     refine bodyPost_ret (v:=.tuple #[.slice none 0 0,.agg #[.int .i64 0,.int .i64 0],.bool false]) ?_ rfl ⟨(HB2.out.setCell (p:=⟨w.heap.size+1,0,none⟩) (Nat.le_succ _) _).setCell (p:=⟨w.heap.size+1,1,none⟩) (Nat.le_succ _) _,.inr ⟨T5.out (by first | rfl | trivial),rfl⟩⟩
     simp [results,Tryz.results158,go_sem,s0,s1]
    ·go_wp2_with (at_builtin;refine wpList_appendK rfl (.tmp 39) (.tmp 41) 196 rfl (w.heap.size+1+1+1) 198 i0 (.agg #[.int .i64 0,.int .i64 0]) 2 16 Tryz.underlying196 hi hz0 hz1 hz2 rfl (by decide) _ _ _ rfl hown2 _ rfl rfl (one2 rfl rfl) (by omega) (by omega) ?_;intro v1 w1 o1 b1 k1 _;have X3:=hD (HX2.out.kept k1 (own_ne hown2 (Nat.lt_succ_self _)));have R3:=hD (HR2.out.kept k1 (own_ne hown2 (Nat.lt_succ_of_lt (Nat.lt_succ_self _))));have P3:=hD (PB.out.kept k1 NE);obtain ⟨g0,g1,g2,g3⟩:=X3.out;obtain ⟨m0,m1,_,_⟩:=P3.out;have B3:=hD b1;have K3:=hD k1;clear b1 k1)
     have hw1:=B3.out.size
     have own3:=own_setCell (own_setCell o1 (a:=⟨w.heap.size+1+1,0,none⟩) (Nat.lt_succ_self _) (.int .i64 (slo+tlo))) (a:=⟨w.heap.size+1+1,1,none⟩) (Nat.lt_succ_self _) (.int .i64 (shi+thi))
     have LW:wc.cell? ⟨w.heap.size,0,none⟩=some (.slice (some ⟨b0,o0,none⟩) coef.length c0)/\wc.cell? ⟨w.heap.size,1,none⟩=some (.slice (some ⟨b1,o1',none⟩) vars.length c1) :=
      ⟨(HW.out.cell (p:=⟨w.heap.size,0,none⟩) (by simp;omega)).trans z0,(HW.out.cell (p:=⟨w.heap.size,1,none⟩) (by simp;omega)).trans z1⟩
     refine ⟨⟨k+1,by omega,by go_num,?_,?_,?_,?_,?_,?_⟩,by simp [intOf];omega⟩
     ·rw [T3.out,cellsR_append];exact own3
     ·exact ((HB2.out.trans (B3.out.mono (by omega))).setCell (p:=⟨w.heap.size+1+1,0,none⟩) (by simp;omega) _).setCell (p:=⟨w.heap.size+1+1,1,none⟩) (by simp;omega) _
     ·rw [T1.out,T2.out];exact (X3.out.set0 _).set1 _
     ·exact (R3.out.far (a:=⟨w.heap.size+1+1,0,none⟩) (by simp) _).far (a:=⟨w.heap.size+1+1,1,none⟩) (by simp) _
     ·exact hD ⟨cell_far (cell_far (K3.out.cell LW.1 (own_ne hown2 (Nat.lt_succ_of_lt (Nat.lt_succ_of_lt (Nat.lt_succ_self _))))) (by simp;omega) _) (by simp;omega) _,cell_far (cell_far (K3.out.cell LW.2 (own_ne hown2 (Nat.lt_succ_of_lt (Nat.lt_succ_of_lt (Nat.lt_succ_self _))))) (by simp;omega) _) (by simp;omega) _⟩
     ·exact T4.out HA.out (by first | rfl | trivial)
  ·obtain rfl:k=ps.length:=by omega
   have hltv:¬ ps.length<vars.length:=by have:=hn.out;have:=hn2.out;omega
   rw [List.take_length] at hown HX HA
   obtain ⟨oa,oc,rfl,_⟩:=(SlAt.of_own hown).shape
   have e:=hD (spans_length ds ps)
   have own3:=hD (own_setCell (own_setCell hown (a:=⟨w.heap.size+1,0,none⟩) (Nat.lt_succ_of_lt (Nat.lt_succ_self _)) (.int .i64 (loS ds ps))) (a:=⟨w.heap.size+1,1,none⟩) (Nat.lt_succ_of_lt (Nat.lt_succ_self _)) (.int .i64 (hiS ds ps)))
   obtain ⟨g0,g1,g2,g3⟩:=HX.out
   obtain ⟨r0,r1,r2,r3⟩:=HR.out
   have s0:=(HR.out.set0 (.int .i64 (loS ds ps))).c0
   have s1:=((HR.out.set0 (.int .i64 (loS ds ps))).set1 (.int .i64 (hiS ds ps))).c1
   clear hown
   generalize hS:spans ds ps=S at *
   generalize hlo:loS ds ps=slo at *
   generalize hhi:hiS ds ps=shi at *
   have HS3:=hD hS;have Hlo:=hD hlo;have Hhi:=hD hhi
   clear hS hlo hhi
   go_wp2
   go_region
   all_goals
    (try go_wp2)
    (try simp only [Exit.inBlock,Exit.then])
    refine bodyPost_ret (v:=.tuple #[.slice oa ps.length oc,.agg #[.int .i64 slo,.int .i64 shi],.bool true]) ?_ rfl ⟨?_,.inl ⟨HA.out,oa,oc,by rw [Hlo.out,Hhi.out],?_⟩⟩
    ·simp [results,Tryz.results158,go_sem,s0,s1]
    ·exact (((HB1.out.setCell (p:=⟨w.heap.size+1,0,none⟩) (Nat.le_succ _) _).setCell (p:=⟨w.heap.size+1,1,none⟩) (Nat.le_succ _) _)).drew
    ·have:=SlAt.of_own own3.out
     unfold RgAt
     rw [HS3.out,e.out]
     exact this
theorem parts_ok (va vb vds:Value) (rel c:Int) (coef vars:List Int) (ds:Ds) (w:World) (h0:IsAt w va coef) (h1:IsAt w vb vars) (hd:DsAt w vds ds) (hg:GoodL coef vars ds) (hA:allOk ds (coef.zip vars)=true) :
  Calls Tryz.prog 158 #[.agg #[va,vb,.int .i64 rel,.int .i64 c],vds] w fun e w'=>∃ ao cap,e=.returned (.tuple #[.slice ao (coef.zip vars).length cap,.agg #[.int .i64 (loS ds (coef.zip vars)),.int .i64 (hiS ds (coef.zip vars))],.bool true])/\RgAt w' (.slice ao (coef.zip vars).length cap) (spans ds (coef.zip vars))/\Below w.heap.size w w' :=
 (parts_c va vb vds rel c coef vars ds w h0 h1 hd hg).mono fun e w' ⟨hb,h⟩=>by
  rcases h with ⟨_,ao,cap,he,hr⟩ | ⟨hn,_⟩
  ·exact ⟨ao,cap,he,hr,hb⟩
  ·rw [hA] at hn;cases hn
theorem parts_no (va vb vds:Value) (rel c:Int) (coef vars:List Int) (ds:Ds) (w:World) (h0:IsAt w va coef) (h1:IsAt w vb vars) (hd:DsAt w vds ds) (hg:GoodL coef vars ds) (hA:allOk ds (coef.zip vars)=false) :
  Calls Tryz.prog 158 #[.agg #[va,vb,.int .i64 rel,.int .i64 c],vds] w fun e w'=>e=.returned (.tuple #[.slice none 0 0,.agg #[.int .i64 0,.int .i64 0],.bool false])/\Below w.heap.size w w' :=
 (parts_c va vb vds rel c coef vars ds w h0 h1 hd hg).mono fun e w' ⟨hb,h⟩=>by
  rcases h with ⟨hn,_⟩ | ⟨_,he⟩
  ·rw [hA] at hn;cases hn
  ·exact ⟨he,hb⟩
def sLo (ds:Ds) (ps:Ps):Int:=if allOk ds ps=true then loS ds ps else 0
def sHi (ds:Ds) (ps:Ps):Int:=if allOk ds ps=true then hiS ds ps else 0
theorem sums_c (va vb vds:Value) (rel c:Int) (coef vars:List Int) (ds:Ds) (w:World) (h0:IsAt w va coef) (h1:IsAt w vb vars) (hd:DsAt w vds ds) (hg:GoodL coef vars ds) :
  Calls Tryz.prog 162 #[.agg #[va,vb,.int .i64 rel,.int .i64 c],vds] w fun e w'=>e=.returned (.tuple #[.int .i64 (sLo ds (coef.zip vars)),.int .i64 (sHi ds (coef.zip vars)),.bool (allOk ds (coef.zip vars))])/\Below w.heap.size w w':=by
 have hZ:Below w.heap.size w (w.alloc (.cells #[va,vb,.int .i64 rel,.int .i64 c] 65)):=bA _
 obtain ⟨a0,c0,rfl,_⟩:=IsAt.shape h0
 obtain ⟨a1,c1,rfl,_⟩:=IsAt.shape h1
 obtain ⟨a2,c2,rfl,_⟩:=hd.shape
 unfold sLo sHi
 cases hA:allOk ds (coef.zip vars) with
 | true =>
  rw [if_pos rfl,if_pos rfl]
  have CP:=hD (parts_ok _ _ _ rel c coef vars ds _ (h0.below hZ) (h1.below hZ) (hd.below hZ) hg hA)
  have HZ:=hD hZ
  clear h0 h1 hd hg hA hZ
  generalize loS ds (coef.zip vars)=lo at *
  generalize hiS ds (coef.zip vars)=hi at *
  go_enter Tryz.func162,Tryz.ntmps162
  go_wp2_with (go_at_call 158;(with_reducible refine CP.out.mono ?_);rintro e W ⟨ao,cap,rfl,hr,bb⟩;have B1:=hD (bT HZ.out bb);clear hr bb)
  go_quiet (fail)
  go_wp2
  go_ret3
  exact ⟨rfl,below_drewN (bL B1.out _) _⟩
 | false =>
  rw [if_neg (by simp),if_neg (by simp)]
  have CP:=hD (parts_no _ _ _ rel c coef vars ds _ (h0.below hZ) (h1.below hZ) (hd.below hZ) hg hA)
  have HZ:=hD hZ
  clear h0 h1 hd hg hA hZ
  go_enter Tryz.func162,Tryz.ntmps162
  go_wp2_with (go_at_call 158;(with_reducible refine CP.out.mono ?_);rintro e W ⟨rfl,bb⟩;have B1:=hD (bT HZ.out bb);clear bb)
  go_quiet (fail)
  go_wp2
  go_ret3
  exact ⟨rfl,below_drewN (bL B1.out _) _⟩
end
section
def atMostL (d:List Rg) (c lim:Int):List Rg:=canon fun x=>memL d x&&decide (c * x<=lim)
def vAt (d:List Rg) (i:Nat):Int:=(placeS (memL d) i).getD 0
theorem vAt_in (d:List Rg) (i:Nat) (h:(i:Int)<sizeL (norm d)):placeS (memL d) i=some (vAt d i)/\-200<=vAt d i/\vAt d i<=200/\memL d (vAt d i)=true:=by
 obtain ⟨v,hv,a,b,c⟩:=placeS_in (memL d) i (by omega) h
 have e:vAt d i=v:=by unfold vAt;rw [hv];rfl
 rw [e];exact ⟨hv,a,b,c⟩
theorem vAt_next (d:List Rg) (i:Nat) (h:((i+1:Nat):Int)<sizeL (norm d)):vAt d i<vAt d (i+1):=by
 have h1:=(vAt_in d i (by omega)).1
 have h2:=(vAt_in d (i+1) h).1
 exact (placeS_next (memL d) i _ _ (by omega) h1 (by push_cast at h2;exact h2)).1
theorem vAt_lt (d:List Rg):∀ (m i:Nat),((i+m+1:Nat):Int)<sizeL (norm d)->vAt d i<vAt d (i+m+1)
 | 0,i,h=>vAt_next d i h
 | m+1,i,h=>by
  have h1:=vAt_lt d m i (by omega)
  have h2:=vAt_next d (i+m+1) h
  have e:i+(m+1)+1=i+m+1+1:=by omega
  rw [e];omega
theorem vAt_rises (d:List Rg) (i j:Nat) (h1:i<j) (h2:(j:Int)<sizeL (norm d)):vAt d i<vAt d j:=by
 obtain ⟨m,rfl⟩:∃ m,j=i+m+1:=⟨j - i - 1,by omega⟩
 exact vAt_lt d m i h2
theorem vAt_le_iff (d:List Rg) (i j:Nat) (hi:(i:Int)<sizeL (norm d)) (hj:(j:Int)<sizeL (norm d)):vAt d i<=vAt d j↔i<=j:=by
 constructor
 ·intro h
  rcases (show i<=j\/j<i by omega) with h1 | h1
  ·exact h1
  ·have:=vAt_rises d j i h1 hi;omega
 ·intro h
  rcases (show i=j\/i<j by omega) with rfl | h1
  ·exact Int.le_refl _
  ·have:=vAt_rises d i j h1 hj;omega
theorem vAt_surj (d:List Rg) (x:Int) (h1:-200<=x) (h2:x<=200) (h:memL d x=true):∃ i:Nat,(i:Int)<sizeL (norm d)/\vAt d i=x:=by
 have hs:sizeL (norm d)=cnt (memL d) 401 (-200):=sizeL_canon _
 have hlt:cnt (memL d) (x - -200).toNat (-200)+1<=cnt (memL d) 401 (-200):=by
  have:=cnt_step (memL d) (-200) x 201 h1 (by omega) h
  rwa [show (201 - -200:Int).toNat=401 by decide] at this
 have h0:=(cnt_nonneg (memL d) (x - -200).toNat (-200)).1
 obtain ⟨i,hi⟩:∃ i:Nat,(i:Int)=cnt (memL d) (x - -200).toNat (-200):=⟨(cnt (memL d) (x - -200).toNat (-200)).toNat,by omega⟩
 refine ⟨i,by omega,?_⟩
 obtain ⟨hp,a,b,c⟩:=vAt_in d i (by omega)
 rw [placeS_eq _ _ (by omega)] at hp
 obtain ⟨_,_,_,hc⟩:=seek_some _ _ _ _ _ hp
 rw [hi] at hc
 rcases (show vAt d i=x\/vAt d i<x\/x<vAt d i by omega) with e | e | e
 ·exact e
 ·have:=cnt_step (memL d) (-200) (vAt d i) x a e c;omega
 ·have:=cnt_step (memL d) (-200) x (vAt d i) h1 e h;omega
theorem atMost_none (d:List Rg) (c lim:Int) (h:∀ i:Nat,(i:Int)<sizeL (norm d)->lim<c * vAt d i):atMostL d c lim=[]:=by
 refine (is_canon (show Normal [] from trivial) (fun x h1 h2=>?_)).symm
 rw [memL_nil]
 cases hx:memL d x with
 | false=>rfl
 | true =>
  obtain ⟨i,hi,rfl⟩:=vAt_surj d x h1 h2 hx
  have:=h i hi
  simp;omega
theorem atMost_low (d:List Rg) (c lim:Int) (k:Nat) (hk:(k:Int)<sizeL (norm d)) (h1:∀ i:Nat,i<=k->c * vAt d i<=lim) (h2:∀ i:Nat,k<i->(i:Int)<sizeL (norm d)->lim<c * vAt d i) :
  meetL d [(-200,vAt d k)]=atMostL d c lim:=by
 unfold meetL atMostL
 refine canon_congr fun x hx1 hx2=>?_
 cases hx:memL d x with
 | false=>rfl
 | true =>
  obtain ⟨i,hi,rfl⟩:=vAt_surj d x hx1 hx2 hx
  rw [memL_cons,memL_nil,Bool.or_false,Bool.true_and,Bool.true_and]
  have hle:=vAt_le_iff d i k hi hk
  rcases (show i<=k\/k<i by omega) with h | h
  ·have a:=h1 i h
   have b:=hle.2 h
   simp [a,b,hx1]
  ·have a:=h2 i h hi
   have b:¬ vAt d i<=vAt d k:=fun x=>by have:=hle.1 x;omega
   simp [hx1,b];omega
theorem atMost_high (d:List Rg) (c lim:Int) (k:Nat) (hk:(k:Int)<sizeL (norm d)) (h1:∀ i:Nat,k<=i->(i:Int)<sizeL (norm d)->c * vAt d i<=lim) (h2:∀ i:Nat,i<k->lim<c * vAt d i) :
  meetL d [(vAt d k,200)]=atMostL d c lim:=by
 unfold meetL atMostL
 refine canon_congr fun x hx1 hx2=>?_
 cases hx:memL d x with
 | false=>rfl
 | true =>
  obtain ⟨i,hi,rfl⟩:=vAt_surj d x hx1 hx2 hx
  rw [memL_cons,memL_nil,Bool.or_false,Bool.true_and,Bool.true_and]
  have hle:=vAt_le_iff d k i hk hi
  rcases (show k<=i\/i<k by omega) with h | h
  ·have a:=h1 i h hi
   have b:=hle.2 h
   simp [a,b,hx2]
  ·have a:=h2 i h
   have b:¬ vAt d k<=vAt d i:=fun x=>by have:=hle.1 x;omega
   simp [hx2,b];omega
theorem size_bnd (d:List Rg):0<=sizeL (norm d)/\sizeL (norm d)<=401:=by
 unfold norm;rw [sizeL_canon];exact cnt_nonneg _ 401 (-200)
theorem narrow_le (c k:Int) (d:List Rg) (lo hi:Int):atMostL d k (c - lo)=narrowL 3 c k d lo hi:=by
 unfold atMostL narrowL
 refine canon_congr fun x _ _=>?_
 congr 1
 unfold staysP
 rw [if_pos rfl]
 exact decide_eq_decide.2 (by omega)
theorem narrow_eq (c k:Int) (d:List Rg) (lo hi:Int):atMostL (atMostL d k (c - lo)) (-k) (hi - c)=narrowL 1 c k d lo hi:=by
 unfold atMostL narrowL
 refine canon_congr fun x h1 h2=>?_
 rw [canon_mem]
 unfold staysP
 rw [if_neg (by decide),if_neg (by decide),Int.neg_mul]
 generalize k * x=y
 simp only [h1,h2,decide_true,Bool.true_and,Bool.and_assoc]
 congr 1
 congr 1
 ·exact decide_eq_decide.2 (by omega)
 ·exact decide_eq_decide.2 (by omega)
theorem narrow_ne_all (c k:Int) (d:List Rg) (lo hi:Int) (h:lo≠hi\/∀ x,k * x≠c - lo):norm d=narrowL 2 c k d lo hi:=by
 unfold norm narrowL
 refine canon_congr fun x _ _=>?_
 have:staysP 2 c k lo hi x=true:=by
  unfold staysP
  rw [if_neg (by decide),if_pos rfl]
  rcases h with h | h
  ·simp [h]
  ·have:=h x
   simp;right;omega
 rw [this,Bool.and_true]
theorem narrow_ne_one (c k:Int) (d:List Rg) (lo v:Int) (hk:k≠0) (hv:k * v=c - lo):minusL d [(v,v)]=narrowL 2 c k d lo lo:=by
 unfold minusL narrowL
 refine canon_congr fun x _ _=>?_
 congr 1
 rw [memL_cons,memL_nil,Bool.or_false]
 unfold staysP
 rw [if_neg (by decide),if_pos rfl]
 by_cases h:x=v
 ·subst h
  have:decide (c - k * x=lo)=true:=by simp;omega
  simp [this]
 ·have h2:¬ c - k * x=lo:=fun e=>h (Int.eq_of_mul_eq_mul_left hk (by omega))
  have h3:(decide (v<=x)&&decide (x<=v))=false:=by
   rw [Bool.and_eq_false_iff,decide_eq_false_iff_not,decide_eq_false_iff_not];omega
  simp [h2,h3]
end
section
open Go.RowKit
def FirstIs (n:Nat) (p:Nat->Bool) (w:World) (e:Ending) (w':World):Prop :=
 ∃ k:Nat,k<=n/\e=.returned (.int .i64 k)/\(∀ i,i<k->p i=false)/\(∀ i,k<=i->i<n->p i=true)/\Below w.heap.size w w'
theorem first_c (n:Nat) (hn:n<=4096) (g:Nat) (lb:Array Value) (p:Nat->Bool) (hm:∀ i j,i<=j->j<n->p i=true->p j=true) (w:World)
  (eg:∀ args w,(callFunc g args).run Tryz.prog w=.ok (.enter g args) w)
  (hg:∀ W (i:Nat),Below w.heap.size w W->i<n->Calls Tryz.prog g (#[.int .i64 i]++lb) W fun e w'=>e=.returned (.bool (p i))/\Below W.heap.size W w') :
  Calls Tryz.prog 166 #[.int .i64 n,.func (.func g) #[] lb] w (FirstIs n p w):=by
 have HG:=hD hg
 have HM:=hD hm
 clear hg hm
 go_enter Tryz.func166,Tryz.ntmps166
 go_wp2
 go_loopw [5,6] (fun a b wr=>∃ lo hi:Nat,lo<=hi/\hi<=n/\a=.int .i64 lo/\b=.int .i64 hi/\Hid (∀ i,i<lo->p i=false)/\Hid (∀ i,hi<=i->i<n->p i=true)/\Below w.heap.size w wr) (fun a b _=>(intOf b).toNat - (intOf a).toNat)
 case atStart=>exact ⟨0,n,by omega,by omega,rfl,rfl,fun i h=>by omega,fun i h1 h2=>by omega,Below.refl _ _⟩
 case round =>
  obtain ⟨lo,hi,h1,h2,rfl,rfl,HL,HH,hbel⟩:=hrel
  have HB:=hD hbel
  clear hbel
  by_cases hlt:lo<hi
  ·obtain ⟨m,hm⟩:∃ m:Nat,m=(lo+hi) / 2:=⟨_,rfl⟩
   have e1:((lo:Int)+hi).tdiv 2=m:=by rw [Int.tdiv_eq_ediv_of_nonneg (by omega)];omega
   have hm1:lo<=m:=by omega
   have hm2:m<hi:=by omega
   have CG:=hD (HG.out wr m HB.out (by omega))
   clear hm
   have hsz:=HB.out.size
   cases hp:p m with
   | true =>
    rw [hp] at CG
    go_wp2_with (go_at_fn g;(with_reducible refine CG.out.mono ?_);rintro e W1 ⟨rfl,bb⟩;have B1:=hD (HB.out.trans (bb.mono hsz));clear bb)
    exact ⟨⟨lo,m,hm1,by omega,rfl,rfl,HL,fun i h3 h4=>HM.out m i h3 h4 hp,B1.out⟩,by simp [intOf];omega⟩
   | false =>
    rw [hp] at CG
    go_wp2_with (go_at_fn g;(with_reducible refine CG.out.mono ?_);rintro e W1 ⟨rfl,bb⟩;have B1:=hD (HB.out.trans (bb.mono hsz));clear bb)
    refine ⟨⟨m+1,hi,by omega,h2,by go_num,rfl,fun i h3=>?_,HH,B1.out⟩,by simp [intOf];omega⟩
    cases hq:p i with
    | false=>rfl
    | true=>have:=HM.out i m (by omega) (by omega) hq;rw [hp] at this;cases this
  ·go_wp2
   go_ret
   exact ⟨lo,by omega,rfl,HL.out,fun i h3 h4=>HH.out i (by omega) h4,HB.out⟩
theorem timesFn_c (vd:Value) (d:List Rg) (c:Int) (B1 B2:Nat) (i:Nat) (W:World) (hd:RgAt W vd d) (hl:d.length<=4096) (hc:-100000<=c/\c<=100000) (hi:(i:Int)<sizeL (norm d)) (x1:Box1 W B1 vd) (x2:Box1 W B2 (.int .i64 c)) :
  Calls Tryz.prog 164 #[.int .i64 i,.pointer (some ⟨B1,0,none⟩),.pointer (some ⟨B2,0,none⟩)] W fun e w'=>e=.returned (.int .i64 (c * vAt d i))/\Below W.heap.size W w':=by
 obtain ⟨v,hv,hv1,hv2,_⟩:=placeS_in (memL d) i (by omega) hi
 have hb:sizeL (norm d)<=401:=by unfold norm;rw [sizeL_canon];exact (cnt_nonneg _ 401 (-200)).2
 have CA:Hid (Calls Tryz.prog 165 #[vd,.int .i64 i] W fun e w'=>e=.returned (.tuple #[.int .i64 v,.bool true])/\Below W.heap.size W w'):=by
  have h:=at_c vd d i W hd hl (by omega)
  have e:(if (i:Int)<0 then none else atL (norm d) i)=some v:=hv
  rw [e] at h;exact h
 obtain ⟨m1,m2⟩:=mul_bnd v c 100000 ⟨hv1,hv2⟩ hc
 have w1:=wrap_small (x:=c * v) (by omega)
 have e2:vAt d i=v:=by unfold vAt;rw [hv];rfl
 rw [e2]
 have X2:=hD x2
 obtain ⟨p0,_⟩:=x1
 obtain ⟨q0,_⟩:=x2
 clear hv e2 hd
 go_enter Tryz.func164,Tryz.ntmps164
 go_wp2_with (go_at_call 165;(with_reducible refine CA.out.mono ?_);rintro e W1 ⟨rfl,bb⟩;obtain ⟨r0,_⟩:=X2.out.past bb;have B3:=hD bb;clear bb)
 go_ret
 exact ⟨rfl,B3.out⟩
theorem gtFn_c (vd:Value) (d:List Rg) (c lim:Int) (B1 B2 B3 B4:Nat) (i:Nat) (W:World) (hd:RgAt W vd d) (hl:d.length<=4096) (hc:-100000<=c/\c<=100000) (hi:(i:Int)<sizeL (norm d)) (x1:Box1 W B1 vd) (x2:Box1 W B2 (.int .i64 c))
  (x3:Box1 W B3 (.func (.func 164) #[] #[.pointer (some ⟨B1,0,none⟩),.pointer (some ⟨B2,0,none⟩)])) (x4:Box1 W B4 (.int .i64 lim)) :
  Calls Tryz.prog 167 #[.int .i64 i,.pointer (some ⟨B3,0,none⟩),.pointer (some ⟨B4,0,none⟩)] W fun e w'=>e=.returned (.bool (decide (lim<c * vAt d i)))/\Below W.heap.size W w':=by
 have eg:∀ args w,(callFunc 164 args).run Tryz.prog w=.ok (.enter 164 args) w:=enters_of Tryz.func164 (by kernel_rfl) rfl
 have T:Hid (∀ g:QG W,Calls Tryz.prog 164 #[.int .i64 i,.pointer (some ⟨B1,0,none⟩),.pointer (some ⟨B2,0,none⟩)] g.1 fun e w'=>e=.returned (.int .i64 (c * vAt d i))/\Below g.1.heap.size g.1 w') :=
  fun g=>timesFn_c vd d c B1 B2 i g.1 (hd.below g.2) hl hc hi (x1.past g.2) (x2.past g.2)
 have k3:=qb_cell x3.c0
 have k4:=qb_cell x4.c0
 clear hd x1 x2 x3 x4
 generalize c * vAt d i=y at *
 go_enter Tryz.func167,Tryz.ntmps167
 go_wp2
 refine wp_region_below (by kernel_rfl) (by kernel_rfl) ?_
 repeat (go_big_quiet_step ((go_at_call 164;exact qb_call _ (T.out _))))
 refine wpQuiet_nil ?_
 intro w1 hw1
 go_wp2
 go_ret
 exact ⟨ret_bool (by simp),hw1.below⟩
theorem leFn_c (vd:Value) (d:List Rg) (c lim:Int) (B1 B2 B3 B4:Nat) (i:Nat) (W:World) (hd:RgAt W vd d) (hl:d.length<=4096) (hc:-100000<=c/\c<=100000) (hi:(i:Int)<sizeL (norm d)) (x1:Box1 W B1 vd) (x2:Box1 W B2 (.int .i64 c))
  (x3:Box1 W B3 (.func (.func 164) #[] #[.pointer (some ⟨B1,0,none⟩),.pointer (some ⟨B2,0,none⟩)])) (x4:Box1 W B4 (.int .i64 lim)) :
  Calls Tryz.prog 168 #[.int .i64 i,.pointer (some ⟨B3,0,none⟩),.pointer (some ⟨B4,0,none⟩)] W fun e w'=>e=.returned (.bool (decide (c * vAt d i<=lim)))/\Below W.heap.size W w':=by
 have eg:∀ args w,(callFunc 164 args).run Tryz.prog w=.ok (.enter 164 args) w:=enters_of Tryz.func164 (by kernel_rfl) rfl
 have T:Hid (∀ g:QG W,Calls Tryz.prog 164 #[.int .i64 i,.pointer (some ⟨B1,0,none⟩),.pointer (some ⟨B2,0,none⟩)] g.1 fun e w'=>e=.returned (.int .i64 (c * vAt d i))/\Below g.1.heap.size g.1 w') :=
  fun g=>timesFn_c vd d c B1 B2 i g.1 (hd.below g.2) hl hc hi (x1.past g.2) (x2.past g.2)
 have k3:=qb_cell x3.c0
 have k4:=qb_cell x4.c0
 clear hd x1 x2 x3 x4
 generalize c * vAt d i=y at *
 go_enter Tryz.func168,Tryz.ntmps168
 go_wp2
 refine wp_region_below (by kernel_rfl) (by kernel_rfl) ?_
 repeat (go_big_quiet_step ((go_at_call 164;exact qb_call _ (T.out _))))
 refine wpQuiet_nil ?_
 intro w1 hw1
 go_wp2
 go_ret
 exact ⟨ret_bool (by simp),hw1.below⟩
theorem atMost_c (vd:Value) (d:List Rg) (c lim:Int) (w:World) (hd:RgAt w vd d) (hl:d.length<=4096) (hc:-100000<=c/\c<=100000) (hc0:c≠0) :
  Calls Tryz.prog 163 #[vd,.int .i64 c,.int .i64 lim] w (RetR (atMostL d c lim) w):=by
 obtain ⟨ao,cap,rfl,_⟩:=hd.shape
 obtain ⟨N,hN⟩:∃ N:Nat,sizeL (norm d)=N:=⟨(sizeL (norm d)).toNat,by have:=size_bnd d;omega⟩
 have hNb:N<=401:=by have:=size_bnd d;omega
 have eg2:∀ args w,(callFunc 167 args).run Tryz.prog w=.ok (.enter 167 args) w:=enters_of Tryz.func167 (by kernel_rfl) rfl
 have eg3:∀ args w,(callFunc 168 args).run Tryz.prog w=.ok (.enter 168 args) w:=enters_of Tryz.func168 (by kernel_rfl) rfl
 have CS:Hid (∀ W,Below w.heap.size w W->Calls Tryz.prog 68 #[.slice ao d.length cap] W fun e w'=>e=.returned (.int .i64 N)/\Below W.heap.size W w'):=fun W h=>by
  have:=size_c _ d W (hd.below h) hl;rwa [hN] at this
 have CA:Hid (∀ (k:Nat) W,k<N->Below w.heap.size w W->Calls Tryz.prog 165 #[.slice ao d.length cap,.int .i64 k] W fun e w'=>e=.returned (.tuple #[.int .i64 (vAt d k),.bool true])/\Below W.heap.size W w'):=fun k W hk h=>by
  have h1:=at_c _ d k W (hd.below h) hl (by omega)
  have e:(if (k:Int)<0 then none else atL (norm d) k)=some (vAt d k):=(vAt_in d k (by omega)).1
  rw [e] at h1;exact h1
 have CM:Hid (∀ (r:Rg) W v2,Below w.heap.size w W->RgAt W v2 [r]->Calls Tryz.prog 34 #[.slice ao d.length cap,v2] W (RetR (meetL d [r]) W)):=fun r W v2 h hr=>meet_c _ _ d [r] W (hd.below h) hr hl (by simp)
 have CF2:Hid (∀ (B1 B2 B3 B4:Nat) W,0<c->Below w.heap.size w W->Box1 W B1 (.slice ao d.length cap)->Box1 W B2 (.int .i64 c)->Box1 W B3 (.func (.func 164) #[] #[.pointer (some ⟨B1,0,none⟩),.pointer (some ⟨B2,0,none⟩)])->Box1 W B4 (.int .i64 lim) ->
   Calls Tryz.prog 166 #[.int .i64 N,.func (.func 167) #[] #[.pointer (some ⟨B3,0,none⟩),.pointer (some ⟨B4,0,none⟩)]] W (FirstIs N (fun i=>decide (lim<c * vAt d i)) W)):=fun B1 B2 B3 B4 W h0 hb x1 x2 x3 x4 =>
  first_c N (by omega) 167 _ _ (fun i j h1 h2 h3=>by
   have a:=(vAt_le_iff d i j (by omega) (by omega)).2 h1
   have b:=Int.mul_le_mul_of_nonneg_left a (by omega:0<=c)
   simp at h3 |-;omega) W eg2 (fun W' i hb' hi=>gtFn_c _ d c lim B1 B2 B3 B4 i W' (hd.below (bT hb hb')) hl hc (by omega) (x1.past hb') (x2.past hb') (x3.past hb') (x4.past hb'))
 have CF3:Hid (∀ (B1 B2 B3 B4:Nat) W,c<0->Below w.heap.size w W->Box1 W B1 (.slice ao d.length cap)->Box1 W B2 (.int .i64 c)->Box1 W B3 (.func (.func 164) #[] #[.pointer (some ⟨B1,0,none⟩),.pointer (some ⟨B2,0,none⟩)])->Box1 W B4 (.int .i64 lim) ->
   Calls Tryz.prog 166 #[.int .i64 N,.func (.func 168) #[] #[.pointer (some ⟨B3,0,none⟩),.pointer (some ⟨B4,0,none⟩)]] W (FirstIs N (fun i=>decide (c * vAt d i<=lim)) W)):=fun B1 B2 B3 B4 W h0 hb x1 x2 x3 x4 =>
  first_c N (by omega) 168 _ _ (fun i j h1 h2 h3=>by
   have a:=(vAt_le_iff d i j (by omega) (by omega)).2 h1
   have b:=Int.mul_le_mul_of_nonpos_left (show c<=0 by omega) a
   simp at h3 |-;omega) W eg3 (fun W' i hb' hi=>leFn_c _ d c lim B1 B2 B3 B4 i W' (hd.below (bT hb hb')) hl hc (by omega) (x1.past hb') (x2.past hb') (x3.past hb') (x4.past hb'))
 have N0:Hid (∀ k:Nat,k=0->(∀ i,k<=i->i<N->decide (lim<c * vAt d i)=true)->atMostL d c lim=[]):=fun k hk h=>atMost_none d c lim (fun i hi=>by have:=h i (by omega) (by omega);simpa using this)
 have N1:Hid (∀ k:Nat,k+1<=N->(∀ i,i<k+1->decide (lim<c * vAt d i)=false)->(∀ i,k+1<=i->i<N->decide (lim<c * vAt d i)=true)->meetL d [(-200,vAt d k)]=atMostL d c lim):=fun k hk h1 h2 =>
  atMost_low d c lim k (by omega) (fun i hi=>by have:=h1 i (by omega);simp at this;omega) (fun i hi hi2=>by have:=h2 i (by omega) (by omega);simpa using this)
 have N2:Hid ((∀ i,i<N->decide (c * vAt d i<=lim)=false)->atMostL d c lim=[]):=fun h=>atMost_none d c lim (fun i hi=>by have:=h i (by omega);simp at this;omega)
 have N3:Hid (∀ k:Nat,k<N->(∀ i,i<k->decide (c * vAt d i<=lim)=false)->(∀ i,k<=i->i<N->decide (c * vAt d i<=lim)=true)->meetL d [(vAt d k,200)]=atMostL d c lim):=fun k hk h1 h2 =>
  atMost_high d c lim k (by omega) (fun i hi hi2=>by have:=h2 i hi (by omega);simpa using this) (fun i hi=>by have:=h1 i hi;simp at this;omega)
 clear hd eg2 eg3 hN
 generalize atMostL d c lim=res at *
 have Z0:Hid (∀ T1 T2 T3,Below w.heap.size w (((w.alloc (.cells #[.slice ao d.length cap] T1)).alloc (.cells #[.int .i64 c] T2)).alloc (.cells #[.int .i64 lim] T3))/\Box1 (((w.alloc (.cells #[.slice ao d.length cap] T1)).alloc (.cells #[.int .i64 c] T2)).alloc (.cells #[.int .i64 lim] T3)) w.heap.size (.slice ao d.length cap) /\
   Box1 (((w.alloc (.cells #[.slice ao d.length cap] T1)).alloc (.cells #[.int .i64 c] T2)).alloc (.cells #[.int .i64 lim] T3)) (w.heap.size+1) (.int .i64 c)/\Box1 (((w.alloc (.cells #[.slice ao d.length cap] T1)).alloc (.cells #[.int .i64 c] T2)).alloc (.cells #[.int .i64 lim] T3)) (w.heap.size+1+1) (.int .i64 lim)):=fun T1 T2 T3 =>
  ⟨by go_grown,⟨by go_simp,by go_simp⟩,⟨by go_simp,by go_simp⟩,⟨by go_simp,by go_simp⟩⟩
 rcases (show 0<c\/c<0 by omega) with hpos | hneg
 ·go_enter Tryz.func163,Tryz.ntmps163
  go_wp2_with (first
   | (go_at_call 68;(with_reducible refine (CS.out _ (Z0.out 61 3 3).1).mono ?_);rintro e W1 ⟨rfl,bb⟩;have B1:=hD ((Z0.out 61 3 3).1.trans (bb.mono (Z0.out 61 3 3).1.size));have X1:=hD ((Z0.out 61 3 3).2.1.past bb);have X2:=hD ((Z0.out 61 3 3).2.2.1.past bb);have X3:=hD ((Z0.out 61 3 3).2.2.2.past bb);obtain ⟨y1,_⟩:=X1.out;obtain ⟨y2,_⟩:=X2.out;obtain ⟨y3,_⟩:=X3.out;have l1:=X1.out.lt;have l2:=X2.out.lt;have l3:=X3.out.lt;clear bb)
   | (go_at_call 166;refine (CF2.out w.heap.size (w.heap.size+1) W1.heap.size (w.heap.size+1+1) _ hpos (bL B1.out _) (X1.out.past (bA _)) (X2.out.past (bA _)) (Box1.mk' _ _ _) (X3.out.past (bA _))).mono ?_;rintro e W2 ⟨k,hk,rfl,q1,q2,b2⟩;have B2:=hD ((bL B1.out _).trans (b2.mono (Nat.le_trans B1.out.size (Nat.le_of_lt (Nat.lt_of_lt_of_le (Nat.lt_succ_self _) (Nat.le_of_eq (World.size_alloc _ _).symm))))));have y4:=((X1.out.past (bA _)).past b2).c0;have y4f:=((X1.out.past (bA _)).past b2).f0;have Q1:=hD q1;have Q2:=hD q2;clear q1 q2 b2;rcases k with _ | j)
   | (go_at_call 165;(with_reducible refine (CA.out j _ (Nat.lt_of_succ_le hk) B2.out).mono ?_);rintro e W3 ⟨rfl,b3⟩;have B3:=hD (bT B2.out b3);have y5:=(Box1.past ⟨y4,y4f⟩ b3).c0;clear b3)
   | (go_at_call 34;refine (CM.out (-200,vAt d j) _ _ (bL B3.out _) (rgAt_lit2 _ (-200,vAt d j) _)).mono ?_;rintro e W4 ⟨a4,c4,rfl,r4,b4⟩;have B4:=hD ((bL B3.out _).trans (b4.mono (bL B3.out _).size))))
  ·rw [N0.out 0 rfl Q2.out]
   go_ret
   exact ⟨_,_,rfl,RgAt.nil,B2.out⟩
  ·have NM:=N1.out j hk Q1.out Q2.out
   go_ret
   rw [NM] at r4
   rw [NM]
   exact ⟨_,_,rfl,r4,B4.out⟩
 ·have hnc:¬ 0<c:=by omega
  go_enter Tryz.func163,Tryz.ntmps163
  go_wp2_with (first
   | (go_at_call 68;(with_reducible refine (CS.out _ (Z0.out 61 3 3).1).mono ?_);rintro e W1 ⟨rfl,bb⟩;have B1:=hD ((Z0.out 61 3 3).1.trans (bb.mono (Z0.out 61 3 3).1.size));have X1:=hD ((Z0.out 61 3 3).2.1.past bb);have X2:=hD ((Z0.out 61 3 3).2.2.1.past bb);have X3:=hD ((Z0.out 61 3 3).2.2.2.past bb);obtain ⟨y1,_⟩:=X1.out;obtain ⟨y2,_⟩:=X2.out;obtain ⟨y3,_⟩:=X3.out;have l1:=X1.out.lt;have l2:=X2.out.lt;have l3:=X3.out.lt;clear bb)
   | (go_at_call 166;refine (CF3.out w.heap.size (w.heap.size+1) W1.heap.size (w.heap.size+1+1) _ hneg (bL B1.out _) (X1.out.past (bA _)) (X2.out.past (bA _)) (Box1.mk' _ _ _) (X3.out.past (bA _))).mono ?_;rintro e W2 ⟨k,hk,rfl,q1,q2,b2⟩;have B2:=hD ((bL B1.out _).trans (b2.mono (Nat.le_trans B1.out.size (Nat.le_of_lt (Nat.lt_of_lt_of_le (Nat.lt_succ_self _) (Nat.le_of_eq (World.size_alloc _ _).symm))))));have y4:=((X1.out.past (bA _)).past b2).c0;have y4f:=((X1.out.past (bA _)).past b2).f0;have Q1:=hD q1;have Q2:=hD q2;clear q1 q2 b2;by_cases hkN:k=N)
   | (go_at_call 165;(with_reducible refine (CA.out k _ (Nat.lt_of_le_of_ne hk hkN) B2.out).mono ?_);rintro e W3 ⟨rfl,b3⟩;have B3:=hD (bT B2.out b3);have y5:=(Box1.past ⟨y4,y4f⟩ b3).c0;clear b3)
   | (go_at_call 34;refine (CM.out (vAt d k,200) _ _ (bL B3.out _) (rgAt_lit2 _ (vAt d k,200) _)).mono ?_;rintro e W4 ⟨a4,c4,rfl,r4,b4⟩;have B4:=hD ((bL B3.out _).trans (b4.mono (bL B3.out _).size))))
  ·subst hkN
   rw [N2.out Q1.out]
   go_ret
   exact ⟨_,_,rfl,RgAt.nil,B2.out⟩
  ·have NM:=N3.out k (Nat.lt_of_le_of_ne hk hkN) Q1.out Q2.out
   go_ret
   rw [NM] at r4
   rw [NM]
   exact ⟨_,_,rfl,r4,B4.out⟩
theorem tdiv_bnd (a b:Int) (_hb:b≠0) (h:-2199023255552<=a/\a<=2199023255552):-2199023255552<=a.tdiv b/\a.tdiv b<=2199023255552:=by
 have h1:(a.tdiv b).natAbs<=a.natAbs:=by rw [Int.natAbs_tdiv];exact Nat.div_le_self _ _
 omega
theorem rgAt_lit2g (w:World) (r:Rg) (T:TypeId) {g:Nat} (hg:w.heap.size=g):RgAt (w.alloc (.cells #[.int .i64 r.1,.int .i64 r.2] T)) (.slice (some ⟨g,0,none⟩) 1 1) [r]:=by
 subst hg;exact rgAt_lit2 w r T
theorem narrowed_c (v0 v1 vd:Value) (rel C:Int) (coef:List Int) (k:Nat) (cf:Int) (d:List Rg) (lo hi:Int) (w:World) (h0:IsAt w v0 coef) (hd:RgAt w vd d) (hl:d.length<=4096)
  (hk:k<coef.length) (hcf:coef[k]=cf) (hc:-100000<=cf/\cf<=100000) (hc0:cf≠0) (hr:rel=1\/rel=2\/rel=3) (hC:-1099511627778<=C/\C<=1099511627778) (hlo:-400000000<=lo/\lo<=400000000) (hhi:-400000000<=hi/\hi<=400000000) :
  Calls Tryz.prog 160 #[.agg #[v0,v1,.int .i64 rel,.int .i64 C],.int .i64 k,vd,.agg #[.int .i64 lo,.int .i64 hi]] w (RetR (narrowL rel C cf d lo hi) w):=by
 obtain ⟨a0,c0,rfl,_⟩:=IsAt.shape h0
 obtain ⟨ao,cap,rfl,_⟩:=hd.shape
 obtain ⟨b,off,rfl,hcap,hbs,hcell⟩:=h0.get k hk
 rw [hcf] at hcell
 have j1:(k:Int)<coef.length:=by omega
 obtain ⟨hc1,hc2⟩:=hc
 obtain ⟨hC1,hC2⟩:=hC
 obtain ⟨hlo1,hlo2⟩:=hlo
 obtain ⟨hhi1,hhi2⟩:=hhi
 have CN:Hid (∀ W,Below w.heap.size w W->Calls Tryz.prog 54 #[.slice ao d.length cap] W (RetR (norm d) W)):=fun W h=>norm_c _ d W (hd.below h) hl
 have CX:Hid (∀ (r:Rg) W v2,Below w.heap.size w W->RgAt W v2 [r]->Calls Tryz.prog 70 #[.slice ao d.length cap,v2] W (RetR (minusL d [r]) W)):=fun r W v2 h hr=>minus_c _ _ d [r] W (hd.below h) hr hl (by simp)
 have CA:Hid (∀ W,Below w.heap.size w W->Calls Tryz.prog 163 #[.slice ao d.length cap,.int .i64 cf,.int .i64 (C - lo)] W (RetR (atMostL d cf (C - lo)) W)):=fun W h=>atMost_c _ d cf _ W (hd.below h) hl ⟨hc1,hc2⟩ hc0
 have CB:Hid (∀ W v,RgAt W v (atMostL d cf (C - lo))->Calls Tryz.prog 163 #[v,.int .i64 (-cf),.int .i64 (hi - C)] W (RetR (atMostL (atMostL d cf (C - lo)) (-cf) (hi - C)) W)):=fun W v h=>atMost_c v _ (-cf) _ W h (Nat.le_trans (canon_len _) (by decide)) ⟨by omega,by omega⟩ (by omega)
 have hbx:b≠w.heap.size:=by omega
 have Z0:Hid (∀ T1 T2,Below w.heap.size w ((w.alloc (.cells #[.slice (some ⟨b,off,none⟩) coef.length c0,v1,.int .i64 rel,.int .i64 C] T1)).alloc (.cells #[.int .i64 lo,.int .i64 hi] T2))):=fun T1 T2=>by show Below _ _ _;go_grown
 rcases hr with rfl | rfl | rfl
 ·rw [<- narrow_eq]
  clear hd h0 CN CX
  generalize atMostL (atMostL d cf (C - lo)) (-cf) (hi - C)=res2 at *
  generalize atMostL d cf (C - lo)=res at *
  go_enter Tryz.func160,Tryz.ntmps160
  go_wp2_with (first
   | (go_at_call 163;(with_reducible refine (CA.out _ (Z0.out 65 198)).mono ?_);rintro e W1 ⟨a1,c1,rfl,r1,bb⟩;have B1:=hD ((Z0.out 65 198).trans (bb.mono (Z0.out 65 198).size));have y0:=bb.cell (p:=⟨w.heap.size,2,none⟩) (by simp;omega);have y1:=bb.cell (p:=⟨w.heap.size,3,none⟩) (by simp;omega);have y2:=bb.cell (p:=⟨w.heap.size+1,1,none⟩) (by simp);simp at y0 y1 y2;have R1:=hD r1;clear bb r1)
   | (go_at_call 163;(with_reducible refine (CB.out _ _ R1.out).mono ?_);rintro e W2 ⟨a2,c2,rfl,r2,bb⟩))
  go_ret
  exact ⟨_,_,rfl,r2,bT B1.out bb⟩
 ·by_cases hlh:lo=hi
  ·subst hlh
   have e1:=wrap_small (x:=C - lo) (by omega)
   by_cases hm:(C - lo).tmod cf=0
   ·have hq:=Int.mul_tdiv_add_tmod (C - lo) cf
    have hqb:=tdiv_bnd (C - lo) cf hc0 (by omega)
    rw [hm,Int.add_zero] at hq
    rw [<- narrow_ne_one C cf d lo ((C - lo).tdiv cf) hc0 hq]
    generalize hqq:(C - lo).tdiv cf=q at *
    have e2:=wrap_small (x:=q) (by omega)
    clear hd h0 CN CA CB
    go_enter Tryz.func160,Tryz.ntmps160
    go_wp2
    go_region_held3 (fun _=>True) (trivial) (first
     | (go_at_call 70;refine (CX.out (q,q) _ _ ?_ ?_).mono ?_;(·exact ((Z0.out 65 198).alloc (Z0.out 65 198).size _).drew);(·exact SlAt.drew (rgAt_lit2g _ (q,q) _ (by simp)));rintro e W1 ⟨a1,c1,rfl,r1,bb⟩;have B1:=hD (((Z0.out 65 198).alloc (Z0.out 65 198).size _).drew.trans (bb.mono ((Z0.out 65 198).alloc (Z0.out 65 198).size _).drew.size));clear bb))
    all_goals go_wp2
    all_goals
     go_ret
     exact ⟨_,_,rfl,r1,B1.out⟩
   ·have hne:∀ x,cf * x≠C - lo:=fun x hx=>hm (by rw [<- hx];exact Int.mul_tmod_right _ _)
    rw [<- narrow_ne_all C cf d lo lo (.inr hne)]
    clear hd h0 CX CA CB hne
    go_enter Tryz.func160,Tryz.ntmps160
    go_wp2_with (go_at_call 54;(with_reducible refine (CN.out _ (Z0.out 65 198)).mono ?_);rintro e W1 ⟨a1,c1,rfl,r1,bb⟩)
    go_ret
    exact ⟨_,_,rfl,r1,(Z0.out 65 198).trans (bb.mono (Z0.out 65 198).size)⟩
  ·rw [<- narrow_ne_all C cf d lo hi (.inl hlh)]
   clear hd h0 CX CA CB
   go_enter Tryz.func160,Tryz.ntmps160
   go_wp2_with (go_at_call 54;(with_reducible refine (CN.out _ (Z0.out 65 198)).mono ?_);rintro e W1 ⟨a1,c1,rfl,r1,bb⟩)
   go_ret
   exact ⟨_,_,rfl,r1,(Z0.out 65 198).trans (bb.mono (Z0.out 65 198).size)⟩
 ·rw [<- narrow_le C cf d lo hi]
  clear hd h0 CN CX CB
  generalize atMostL d cf (C - lo)=res at *
  go_enter Tryz.func160,Tryz.ntmps160
  go_wp2_with (first
   | (go_at_call 163;(with_reducible refine (CA.out _ (Z0.out 65 198)).mono ?_);rintro e W1 ⟨a1,c1,rfl,r1,bb⟩;have B1:=hD ((Z0.out 65 198).trans (bb.mono (Z0.out 65 198).size));have y0:=bb.cell (p:=⟨w.heap.size,2,none⟩) (by simp;omega);simp at y0;have R1:=hD r1;clear bb r1))
  go_ret
  exact ⟨_,_,rfl,R1.out,B1.out⟩
end
end Go.Proofs.YtaekdgikgbdnnaaGreat
