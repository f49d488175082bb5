/-
  The reference's without of layer 15, walked.
  The reference's ends, Sums, fixed, stays of layer 15, walked.
  The reference's fixed, stays of layer 15, walked.
  The reference's joined of layer 15, walked.
  The law's own 'holds', walked.
-/
import Derived.Test.YtaekdgikgbdnnaaGreatKlin2
import Derived.Test.YtaekdgikgbdnnaaGreatKlin1
import Derived.Test.YtaekdgikgbdnnaaGreatKlib1
import Derived.Handy
import Derived.Deep.RegionHeld3
import Derived.Deep.RegionLaw
import Derived.Deep.DeepCutAuto
import Derived.Test.YtaekdgikgbdnnaaGreatKlin3
import Derived.Test.YtaekdgikgbdnnaaGreatKdom3
import Derived.Test.YtaekdgikgbdnnaaGreatKdom1
namespace Go.Proofs.YtaekdgikgbdnnaaGreat
section
open Go.RowKit
theorem Tryz.infoInt:(Tryz.prog.info? 3).map (fun i=>(i.zero,i.size,i.bytes))=some (some (.int .i64 0),1,8):=by kernel_rfl
set_option maxRecDepth 100000
set_option maxHeartbeats 1600000
theorem without_o (va vb:Value) (rel c i:Int) (coef vars:List Int) (w:World) (h0:IsAt w va coef) (h1:IsAt w vb vars) (hl:coef.length=vars.length) (hl16:coef.length<=16) :
  Calls Tryz.prog 105 #[.agg #[va,vb,.int .i64 rel,.int .i64 c],.int .i64 i] w fun e w'=>∃ v0 v1,e=.returned (.agg #[v0,v1,.int .i64 rel,.int .i64 c]) /\
   IsAt w' v0 (butL coef i coef.length)/\IsAt w' v1 (butL vars i vars.length)/\Below w.heap.size w w'/\(∃ B,w.heap.size<=B/\w'.ownsRow B 3 1 v0 (butL coef i coef.length).length ((butL coef i coef.length).map (Value.int .i64))/\w'.ownsRow B 3 1 v1 (butL vars i vars.length).length ((butL vars i vars.length).map (Value.int .i64)))/\Apart v0 v1:=by
 obtain ⟨i0,hi,hz0,hz1,hz2⟩:=info_parts Tryz.infoInt
 obtain ⟨a0,c0,rfl,_⟩:=SlAt.shape h0
 obtain ⟨a1,c1,rfl,_⟩:=SlAt.shape h1
 have H0:=hD h0
 have H1:=hD h1
 have HL:=hD hl
 clear h0 h1 hl
 go_enter Tryz.func105,Tryz.ntmps105
 go_wp2
 have HZ:Hid (Below w.heap.size w ((((w.alloc (.cells #[.slice a0 coef.length c0,.slice a1 vars.length c1,.int .i64 rel,.int .i64 c] 65)).alloc (.cells #[.slice none 0 0,.slice none 0 0,.int .i64 0,.int .i64 0] 65)).alloc (.cells #[.slice none 0 0,.slice none 0 0,.int .i64 rel,.int .i64 c] 65)))):=by
  show Below _ _ _
  go_grown
 go_loopw [6] (fun s wr=>∃ k:Nat,∃ v0 v1:Value,k<=vars.length/\s=.int .i64 k/\Hid (BoxL wr w.heap.size [.slice a0 coef.length c0,.slice a1 vars.length c1,.int .i64 rel,.int .i64 c])/\Hid (BoxL wr (w.heap.size+1) [.slice none 0 0,.slice none 0 0,.int .i64 0,.int .i64 0])/\Hid (BoxL wr (w.heap.size+1+1) [v0,v1,.int .i64 rel,.int .i64 c]) /\
   wr.ownsRow (w.heap.size+1+1+1) 3 1 v0 (butL coef i k).length ((butL coef i k).map (Value.int .i64))/\wr.ownsRow (w.heap.size+1+1+1) 3 1 v1 (butL vars i k).length ((butL vars i k).map (Value.int .i64))/\Hid (Apart v0 v1)/\Hid (Below w.heap.size w wr)/\w.heap.size+1+1+1<=wr.heap.size) (fun s _=>vars.length - (intOf s).toNat)
 case atStart =>
  refine ⟨0,.slice none 0 0,.slice none 0 0,by omega,rfl,?_,?_,?_,?_,?_,fun b h=>by simp [Value.ownBlock] at h,HZ,by simp⟩
  ·refine hD ?_
   have h:=BoxL.mk' w #[.slice a0 coef.length c0,.slice a1 vars.length c1,.int .i64 rel,.int .i64 c] 65
   refine BoxL.below h (B:=w.heap.size+1) ?_ (by omega)
   go_grown
  ·refine hD ?_
   have h:=BoxL.mk' (w.alloc (.cells #[.slice a0 coef.length c0,.slice a1 vars.length c1,.int .i64 rel,.int .i64 c] 65)) #[.slice none 0 0,.slice none 0 0,.int .i64 0,.int .i64 0] 65
   rw [show (w.alloc (.cells #[.slice a0 coef.length c0,.slice a1 vars.length c1,.int .i64 rel,.int .i64 c] 65)).heap.size=w.heap.size+1 by simp] at h
   refine BoxL.below h (B:=w.heap.size+1+1) ?_ (by omega)
   go_grown
  ·refine hD ?_
   have h:=BoxL.mk' ((w.alloc (.cells #[.slice a0 coef.length c0,.slice a1 vars.length c1,.int .i64 rel,.int .i64 c] 65)).alloc (.cells #[.slice none 0 0,.slice none 0 0,.int .i64 0,.int .i64 0] 65)) #[.slice none 0 0,.slice none 0 0,.int .i64 rel,.int .i64 c] 65
   rw [show ((w.alloc (.cells #[.slice a0 coef.length c0,.slice a1 vars.length c1,.int .i64 rel,.int .i64 c] 65)).alloc (.cells #[.slice none 0 0,.slice none 0 0,.int .i64 0,.int .i64 0] 65)).heap.size=w.heap.size+1+1 by simp] at h
   exact h
  ·rw [butL_zero];exact World.ownsRow_nil _ _ _ _
  ·rw [butL_zero];exact World.ownsRow_nil _ _ _ _
 case round =>
  obtain ⟨k,v0,v1,hk,rfl,HBL,HBR,HBM,own0,own1,HAP,HBW,hsz⟩:=hrel
  have hbl:=butL_len coef i k
  have hbv:=butL_len vars i k
  have hlv:vars.length<=16:=by have:=HL.out;omega
  by_cases hlt:k<vars.length
  ·obtain ⟨b0,o0,q0,he0,hq0,hb0,hx0⟩:=IsAt.at H0.out (by have:=HL.out;omega)
   obtain ⟨b1,o1,q1,he1,hq1,hb1,hx1⟩:=IsAt.at H1.out (by omega)
   simp only [Value.slice.injEq,true_and] at he0 he1
   obtain ⟨rfl,rfl⟩:=he0
   obtain ⟨rfl,rfl⟩:=he1
   have x0:=hx0 k (by have:=HL.out;omega)
   have x1:=hx1 k hlt
   have S0:=hD (butL_step coef i k (by have:=HL.out;omega))
   have S1:=hD (butL_step vars i k hlt)
   have j1:(k:Int)<vars.length:=by omega
   have j2:(k:Int)<coef.length:=by have:=HL.out;omega
   have j3:(k:Int)<=16:=by omega
   clear hx0 hx1
   generalize coef[k]'(by have:=HL.out;omega)=y0 at *
   generalize vars[k]=y1 at *
   rw [<- HBW.out.cell (p:=⟨b0,o0+k,none⟩) hb0] at x0
   rw [<- HBW.out.cell (p:=⟨b1,o1+k,none⟩) hb1] at x1
   obtain ⟨l0,_⟩:=HBL.out.get 0 rfl
   obtain ⟨l1,_⟩:=HBL.out.get 1 rfl
   obtain ⟨m0,mf0⟩:=HBM.out.get 0 rfl
   obtain ⟨m1,mf1⟩:=HBM.out.get 1 rfl
   by_cases hi':(k:Int)=i
   ·have hne:((k:Int) != i)=false:=by simp [hi']
    rw [if_pos hi',List.append_nil] at S0 S1
    clear hi'
    go_wp2
    exact ⟨⟨k+1,v0,v1,by omega,by go_num,HBL,HBR,HBM,by rw [S0.out];exact own0,by rw [S1.out];exact own1,HAP,HBW,hsz⟩,by simp [intOf];omega⟩
   ·have hne:((k:Int) != i)=true:=by simpa using hi'
    rw [if_neg hi'] at S0 S1
    clear hi'
    generalize butL coef i k=O0 at *
    generalize butL vars i k=O1 at *
    obtain ⟨oa,oc,rfl,_⟩:=(SlAt.of_own own0).shape
    obtain ⟨ob,od,rfl,_⟩:=(SlAt.of_own own1).shape
    have n1:¬ b0=w.heap.size+1+1:=by omega
    have n2:¬ b1=w.heap.size+1+1:=by omega
    have HS:Hid (∀ W',Below (w.heap.size+1+1+1) wr W'->W'.cell? ⟨w.heap.size,0,none⟩=some (.slice (some ⟨b0,o0,none⟩) coef.length c0)/\W'.cell? ⟨b0,o0+k,none⟩=some (.int .i64 y0)/\W'.frozen? ⟨w.heap.size+1+1,0,none⟩=false):=fun W' h =>
     ⟨((HBL.out.below h (by omega)).get 0 rfl).1,(h.cell (p:=⟨b0,o0+k,none⟩) (by simp;omega)).trans x0,((HBM.out.below h (by omega)).get 0 rfl).2⟩
    have hq:¬ w.heap.size+1+1=wr.heap.size:=by omega
    have HA:Hid (∀ o,Below (w.heap.size+1+1+1) wr (wr.alloc o).drew):=fun o=>below_drewN ((Below.refl (w.heap.size+1+1+1) wr).alloc hsz _) 1
    have ma:∀ o,(wr.alloc o).cell? ⟨w.heap.size+1+1,0,none⟩=some (.slice oa O0.length oc):=fun o=>Lib.cell?_alloc_some o m0
    go_upto_region 6 with fail
    go_cut [30] (fun p wx=>∃ v0':Value,Hid (BoxL wx w.heap.size [.slice (some ⟨b0,o0,none⟩) coef.length c0,.slice (some ⟨b1,o1,none⟩) vars.length c1,.int .i64 rel,.int .i64 c])/\Hid (BoxL wx (w.heap.size+1) [.slice none 0 0,.slice none 0 0,.int .i64 0,.int .i64 0])/\Hid (BoxL wx (w.heap.size+1+1) [v0',.slice ob O1.length od,.int .i64 rel,.int .i64 c]) /\
     wx.ownsRow (w.heap.size+1+1+1) 3 1 v0' (O0.length+1) (O0.map (Value.int .i64)++[.int .i64 y0])/\wx.ownsRow (w.heap.size+1+1+1) 3 1 (.slice ob O1.length od) O1.length (O1.map (Value.int .i64))/\Hid (Apart v0' (.slice ob O1.length od))/\Hid (Below w.heap.size w wx)/\w.heap.size+1+1+1<=wx.heap.size/\wx.cell? ⟨b1,o1+k,none⟩=some (.int .i64 y1))
    case first =>
     go_region_law
      ((refine step_append1 rfl (.tmp 23) (.tmp 29) 26 rfl (w.heap.size+1+1+1) 3 i0 (.int .i64 0) 8 Tryz.underlying26 hi hz0 hz1 hz2 rfl _ _ _ rfl (World.ownsRow.drew (own0.alloc _)) (.int .i64 y0) _ rfl ?_ rfl ?_ ?_ ?_;(·simp);(·omega);(·simp;omega);intro g1 cap1 w1 ow bw kw aw;have mm:=((HBM.out.below ((HA.out _).trans bw) (by omega)).get 0 rfl).1;have mf:=((HBM.out.below ((HA.out _).trans bw) (by omega)).get 0 rfl).2))
     all_goals
      have HB1:=hD ((HA.out _).trans bw)
      have HO1:=hD ow
      have BL1:=hD (HBL.out.below HB1.out (by omega))
      have BR1:=hD (HBR.out.below HB1.out (by omega))
      have BM1:=hD (HBM.out.below HB1.out (by omega))
      have OW1:=hD (own_kept (World.ownsRow.drew (own1.alloc _)) kw (HAP.out.symm))
      have AP1:=hD (apart_new (m:=O0.length+1) (c:=cap1) (World.ownsRow.drew (own1.alloc _)) HAP.out aw)
      have HW1:=hD ((below_drewN (HBW.out.alloc (by omega) _) 1).trans (bw.mono (by omega)))
      have hs1:=HB1.out.size
      go_wp2_with fail
      go_meet
      exact ⟨_,hD (BL1.out.far (a:=⟨w.heap.size+1+1,0,none⟩) (by dsimp only;omega) _),hD (BR1.out.far (a:=⟨w.heap.size+1+1,0,none⟩) (by dsimp only;omega) _),hD (BM1.out.set 0 (by simp) (.slice (some ⟨g1,0,none⟩) (O0.length+1) cap1)),own_setCell HO1.out (a:=⟨w.heap.size+1+1,0,none⟩) (Nat.lt_succ_self _) _,own_setCell OW1.out (a:=⟨w.heap.size+1+1,0,none⟩) (Nat.lt_succ_self _) _,AP1,hD (HW1.out.setCell (p:=⟨w.heap.size+1+1,0,none⟩) (by dsimp only;omega) _),by simp [World.setCell];omega,
       cell_far ((HB1.out.cell (p:=⟨b1,o1+k,none⟩) (by dsimp only;omega)).trans x1) (a:=⟨w.heap.size+1+1,0,none⟩) (by dsimp only;omega) _⟩
    case rest =>
     obtain ⟨v0',HBL2,HBR2,HBM2,ow0,ow1,HAP2,HBW2,hsz2,x1'⟩:=hcut
     clear HBL HBR HBM own0 own1 HAP HBW x0 x1 l0 l1 m0 m1 mf0 mf1 ma HS HA hq hsz
     obtain ⟨oe,of,rfl,_⟩:=(SlAt.of_own ow0).shape
     obtain ⟨l1,_⟩:=HBL2.out.get 1 rfl
     obtain ⟨m1,mf1⟩:=HBM2.out.get 1 rfl
     have HA:Hid (∀ o,Below (w.heap.size+1+1+1) wc (wc.alloc o).drew):=fun o=>below_drewN ((Below.refl (w.heap.size+1+1+1) wc).alloc hsz2 _) 1
     have ma:∀ o,(wc.alloc o).cell? ⟨w.heap.size+1+1,1,none⟩=some (.slice ob O1.length od):=fun o=>Lib.cell?_alloc_some o m1
     go_wp2
     go_region_law
       ((refine step_append1 rfl (.tmp 33) (.tmp 39) 26 rfl (w.heap.size+1+1+1) 3 i0 (.int .i64 0) 8 Tryz.underlying26 hi hz0 hz1 hz2 rfl _ _ _ rfl (World.ownsRow.drew (ow1.alloc _)) (.int .i64 y1) _ rfl ?_ rfl ?_ ?_ ?_;(·simp);(·omega);(·simp;omega);intro g1 cap1 w1 ow bw kw aw;have mm:=((HBM2.out.below ((HA.out _).trans bw) (by omega)).get 1 rfl).1;have mf:=((HBM2.out.below ((HA.out _).trans bw) (by omega)).get 1 rfl).2))
     all_goals
      have HB1:=hD ((HA.out _).trans bw)
      have HO1:=hD ow
      have BL1:=hD (HBL2.out.below HB1.out (by omega))
      have BR1:=hD (HBR2.out.below HB1.out (by omega))
      have BM1:=hD (HBM2.out.below HB1.out (by omega))
      have OW1:=hD (own_kept (World.ownsRow.drew (ow0.alloc _)) kw HAP2.out)
      have AP1:=hD (apart_new (m:=O1.length+1) (c:=cap1) (World.ownsRow.drew (ow0.alloc _)) HAP2.out.symm aw)
      have HW1:=hD ((below_drewN (HBW2.out.alloc (by omega) _) 1).trans (bw.mono (by omega)))
      have hs1:=HB1.out.size
      go_wp2
      refine ⟨⟨k+1,_,_,by omega,by go_num,hD (BL1.out.far (a:=⟨w.heap.size+1+1,1,none⟩) (by dsimp only;omega) _),hD (BR1.out.far (a:=⟨w.heap.size+1+1,1,none⟩) (by dsimp only;omega) _),hD (BM1.out.set 1 (by simp) (.slice (some ⟨g1,0,none⟩) (O1.length+1) cap1)),?_,?_,hD AP1.out.symm,hD (HW1.out.setCell (p:=⟨w.heap.size+1+1,1,none⟩) (by dsimp only;omega) _),by simp [World.setCell];omega⟩,by simp [intOf];omega⟩
      ·rw [S0.out,List.length_append,List.map_append];exact own_setCell OW1.out (a:=⟨w.heap.size+1+1,1,none⟩) (Nat.lt_succ_self _) _
      ·rw [S1.out,List.length_append,List.map_append];exact own_setCell HO1.out (a:=⟨w.heap.size+1+1,1,none⟩) (Nat.lt_succ_self _) _
  ·obtain rfl:k=vars.length:=by omega
   obtain ⟨l0,_⟩:=HBL.out.get 0 rfl
   obtain ⟨l1,_⟩:=HBL.out.get 1 rfl
   obtain ⟨m0,mf0⟩:=HBM.out.get 0 rfl
   obtain ⟨m1,mf1⟩:=HBM.out.get 1 rfl
   obtain ⟨m2,mf2⟩:=HBM.out.get 2 rfl
   obtain ⟨m3,mf3⟩:=HBM.out.get 3 rfl
   obtain ⟨r0,rf0⟩:=HBR.out.get 0 rfl
   obtain ⟨r1,rf1⟩:=HBR.out.get 1 rfl
   obtain ⟨r2,rf2⟩:=HBR.out.get 2 rfl
   obtain ⟨r3,rf3⟩:=HBR.out.get 3 rfl
   obtain ⟨oa,oc,rfl,_⟩:=(SlAt.of_own own0).shape
   obtain ⟨ob,od,rfl,_⟩:=(SlAt.of_own own1).shape
   have R4:=hD ((((HBR.out.set 0 (by simp) (.slice oa (butL coef i vars.length).length oc)).set 1 (by simp) (.slice ob (butL vars i vars.length).length od)).set 2 (by simp) (.int .i64 rel)).set 3 (by simp) (.int .i64 c))
   obtain ⟨s0,_⟩:=R4.out.get 0 rfl
   obtain ⟨s1,_⟩:=R4.out.get 1 rfl
   obtain ⟨s2,_⟩:=R4.out.get 2 rfl
   obtain ⟨s3,_⟩:=R4.out.get 3 rfl
   go_wp2
   refine bodyPost_ret (v:=.agg #[.slice oa (butL coef i vars.length).length oc,.slice ob (butL vars i vars.length).length od,.int .i64 rel,.int .i64 c]) ?_ rfl ⟨_,_,rfl,?_,?_,?_,⟨w.heap.size+1+1+1,by omega,?_,?_⟩,HAP.out⟩
   ·simp [results,Tryz.results105,go_sem,s0,s1,s2,s3]
   ·rw [HL.out]
    exact SlAt.of_own (own_setCell (own_setCell (own_setCell (own_setCell own0 (a:=⟨w.heap.size+1,0,none⟩) (by simp) _) (a:=⟨w.heap.size+1,1,none⟩) (by simp) _) (a:=⟨w.heap.size+1,2,none⟩) (by simp) _) (a:=⟨w.heap.size+1,3,none⟩) (by simp) _)
   ·exact SlAt.of_own (own_setCell (own_setCell (own_setCell (own_setCell own1 (a:=⟨w.heap.size+1,0,none⟩) (by simp) _) (a:=⟨w.heap.size+1,1,none⟩) (by simp) _) (a:=⟨w.heap.size+1,2,none⟩) (by simp) _) (a:=⟨w.heap.size+1,3,none⟩) (by simp) _)
   ·exact (((HBW.out.setCell (p:=⟨w.heap.size+1,0,none⟩) (by simp) _).setCell (p:=⟨w.heap.size+1,1,none⟩) (by simp) _).setCell (p:=⟨w.heap.size+1,2,none⟩) (by simp) _).setCell (p:=⟨w.heap.size+1,3,none⟩) (by simp) _
   ·rw [HL.out]
    exact (own_setCell (own_setCell (own_setCell (own_setCell own0 (a:=⟨w.heap.size+1,0,none⟩) (by simp) _) (a:=⟨w.heap.size+1,1,none⟩) (by simp) _) (a:=⟨w.heap.size+1,2,none⟩) (by simp) _) (a:=⟨w.heap.size+1,3,none⟩) (by simp) _)
   ·exact (own_setCell (own_setCell (own_setCell (own_setCell own1 (a:=⟨w.heap.size+1,0,none⟩) (by simp) _) (a:=⟨w.heap.size+1,1,none⟩) (by simp) _) (a:=⟨w.heap.size+1,2,none⟩) (by simp) _) (a:=⟨w.heap.size+1,3,none⟩) (by simp) _)
theorem without_c (va vb:Value) (rel c i:Int) (coef vars:List Int) (w:World) (h0:IsAt w va coef) (h1:IsAt w vb vars) (hl:coef.length=vars.length) (hl16:coef.length<=16) :
  Calls Tryz.prog 105 #[.agg #[va,vb,.int .i64 rel,.int .i64 c],.int .i64 i] w fun e w'=>∃ v0 v1,e=.returned (.agg #[v0,v1,.int .i64 rel,.int .i64 c]) /\
   IsAt w' v0 (butL coef i coef.length)/\IsAt w' v1 (butL vars i vars.length)/\Below w.heap.size w w' :=
 (without_o va vb rel c i coef vars w h0 h1 hl hl16).mono fun _ _ ⟨v0,v1,a,b,c,d,_⟩=>⟨v0,v1,a,b,c,d⟩
theorem ends_le (d:List Rg):(endsL (norm d)).1<=(endsL (norm d)).2.1:=by
 cases h:okT d with
 | true =>
  obtain ⟨a,_⟩:=ends_in d h
  exact (ends_mem d _ a).2.1
 | false =>
  rw [okT_nil] at h
  simp at h
  rw [h];simp [endsL]
theorem loT_min (c:Int) (d:List Rg):min (c * (endsL (norm d)).1) (c * (endsL (norm d)).2.1)=loT c d/\max (c * (endsL (norm d)).1) (c * (endsL (norm d)).2.1)=hiT c d:=by
 have hle:=ends_le d
 unfold loT hiT
 by_cases hc:c<0
 ·have:=mul_le_neg hc hle
  rw [if_pos hc,if_pos hc];omega
 ·have:=mul_le_pos hc hle
  rw [if_neg hc,if_neg hc];omega
theorem okT_size (d:List Rg):okT d=decide (sizeL (norm d)≠0):=by
 have h:=sizeL_pos (norm d) (fun r hr=>(norm_bounds d r hr).2.1)
 rw [okT_nil]
 by_cases hn:norm d=[]
 ·rw [hn];simp [sizeL]
 ·have:sizeL (norm d)≠0:=fun e=>hn (h.2 e)
  simp [hn,this]
theorem refEndsT_c (vd:Value) (c:Int) (d:List Rg) (w:World) (hd:RgAt w vd d) (hl:d.length<=4096) (hc:-100000<=c/\c<=100000) :
  Calls Tryz.prog 121 #[.int .i64 c,vd] w fun e w'=>e=.returned (.tuple #[.int .i64 (loT c d),.int .i64 (hiT c d)])/\Below w.heap.size w w':=by
 obtain ⟨ao,cap,rfl,_⟩:=hd.shape
 have CE:Hid (Calls Tryz.prog 51 #[.slice ao d.length cap] w fun e w'=>e=.returned (.tuple #[.int .i64 (endsL (norm d)).1,.int .i64 (endsL (norm d)).2.1,.bool (endsL (norm d)).2.2])/\Below w.heap.size w w'):=refEnds_c _ d w hd hl
 obtain ⟨b1,b2,b3,b4⟩:=ends_bnd d
 obtain ⟨e1,e2⟩:=loT_min c d
 rw [<- e1,<- e2]
 clear hd e1 e2
 generalize (endsL (norm d)).1=lo at *
 generalize (endsL (norm d)).2.1=hi at *
 generalize (endsL (norm d)).2.2=ok at *
 obtain ⟨m1,m2⟩:=mul_bnd lo c 100000 ⟨b1,b2⟩ hc
 obtain ⟨m3,m4⟩:=mul_bnd hi c 100000 ⟨b3,b4⟩ hc
 have w1:=wrap_small (x:=c * lo) (by omega)
 have w2:=wrap_small (x:=c * hi) (by omega)
 go_enter Tryz.func121,Tryz.ntmps121
 go_wp2_with (go_at_call 51;(with_reducible refine CE.out.mono ?_);rintro e W ⟨rfl,bb⟩;have B1:=hD bb;clear bb)
 go_ret2
 exact ⟨rfl,B1.out⟩
theorem refSums_c (va vb vds:Value) (rel c:Int) (coef vars:List Int) (ds:Ds) (w:World) (h0:IsAt w va coef) (h1:IsAt w vb vars) (hd:DsAt w vds ds) (hg:GoodL coef vars ds) :
  Calls Tryz.prog 104 #[.agg #[va,vb,.int .i64 rel,.int .i64 c],vds] w fun e w'=>e=.returned (.tuple #[.int .i64 (sLo ds (coef.zip vars)),.int .i64 (sHi ds (coef.zip vars)),.bool (allOk ds (coef.zip vars))])/\Below w.heap.size w w':=by
 obtain ⟨a0,c0,rfl,_⟩:=IsAt.shape h0
 obtain ⟨a1,c1,rfl,_⟩:=IsAt.shape h1
 obtain ⟨a2,c2,rfl,_⟩:=hd.shape
 have HC:=hD (row_facts h0 h1 hd hg)
 have HB:=hD (sums_bnd hg)
 have HS:=hD (sums_step hg)
 have hn:=hD hg.len
 have hn2:=hD hg.zip_len
 have hn16:=hg.le16
 clear h0 h1 hd hg
 generalize hps:coef.zip vars=ps at *
 clear hps
 go_enter Tryz.func104,Tryz.ntmps104
 go_wp2
 have HZ:Hid (Below w.heap.size w (w.alloc (.cells #[.slice a0 coef.length c0,.slice a1 vars.length c1,.int .i64 rel,.int .i64 c] 65))/\(w.alloc (.cells #[.slice a0 coef.length c0,.slice a1 vars.length c1,.int .i64 rel,.int .i64 c] 65)).cell? ⟨w.heap.size,0,none⟩=some (.slice a0 coef.length c0)/\(w.alloc (.cells #[.slice a0 coef.length c0,.slice a1 vars.length c1,.int .i64 rel,.int .i64 c] 65)).cell? ⟨w.heap.size,1,none⟩=some (.slice a1 vars.length c1)) :=
  ⟨bA _,by simp,by simp⟩
 generalize (w.alloc (.cells #[.slice a0 coef.length c0,.slice a1 vars.length c1,.int .i64 rel,.int .i64 c] 65))=W at HZ |-
 obtain ⟨y0,y1⟩:=HZ.out.2
 have Y:=hD HZ.out.2
 have HB0:=hD HZ.out.1
 have hwl:w.heap.size<W.heap.size:=World.block_lt_of_cell? W _ y0
 have hwz:=HB0.out.size
 clear HZ y0 y1
 go_loopw [7,8,9] (fun a b s wr=>∃ k:Nat,k<=ps.length/\s=.int .i64 k/\a=.int .i64 (loS ds (ps.take k))/\b=.int .i64 (hiS ds (ps.take k))/\Hid (allOk ds (ps.take k)=true)/\Below W.heap.size W wr) (fun _ _ s _=>ps.length - (intOf s).toNat)
 case atStart=>exact ⟨0,by omega,rfl,by simp [loS],by simp [hiS],rfl,Below.refl _ _⟩
 case round =>
  obtain ⟨k,hk,rfl,rfl,rfl,HA,hbel⟩:=hrel
  have HB1:=hD hbel
  have hle:=hbel.size
  clear hbel
  have y0:=(HB1.out.cell (p:=⟨w.heap.size,0,none⟩) hwl).trans Y.out.1
  have y1:=(HB1.out.cell (p:=⟨w.heap.size,1,none⟩) hwl).trans Y.out.2
  have hbw:Below w.heap.size w wr:=HB0.out.trans (HB1.out.mono hwz)
  by_cases hlt:k<ps.length
  ·obtain ⟨b0,o0,b1,o1',b2,o2,n,ao,cap,cf,d,⟨rfl,rfl,rfl⟩,⟨l0,l1,l2⟩,⟨q0,q1,q2⟩,hnn,x0,x1,x2,x3,e1,e2,hdl,hc1,hc2⟩:=HC.out k hlt
   obtain ⟨t1,t2,t3,t4,t5⟩:=HS.out k hlt cf n d e1 e2
   have T1:=hD t1;have T2:=hD t2;have T4:=hD t4;have T5:=hD t5
   obtain ⟨⟨z1,z2⟩,⟨z3,z4⟩⟩:=HB.out k
   obtain ⟨⟨z5,z6⟩,⟨z7,z8⟩⟩:=loT_bnd cf d ⟨hc1,hc2⟩
   rw [<- hbw.cell (p:=⟨b0,o0+k,none⟩) q0] at x0
   rw [<- hbw.cell (p:=⟨b1,o1'+k,none⟩) q1] at x1
   rw [<- hbw.cell (p:=⟨b2,o2+n,none⟩) q2] at x2
   have j1:(k:Int)<coef.length:=by have:=hn2.out;omega
   have j2:(k:Int)<vars.length:=by have:=hn.out;have:=hn2.out;omega
   have j3:(n:Int)<ds.length:=by omega
   have j4:(k:Int)<=16:=by have:=hn2.out;omega
   have hok:=okT_size d
   have hsb:sizeL (norm d)<=401:=by unfold norm;rw [sizeL_canon];exact (cnt_nonneg _ 401 (-200)).2
   have CS:Hid (Calls Tryz.prog 28 #[.slice ao d.length cap] wr fun e w'=>e=.returned (.int .i64 (sizeL (norm d)))/\Below wr.heap.size wr w'):=refSize_c _ d wr (x3.below hbw) hdl
   have CE:Hid (∀ W',Below wr.heap.size wr W'->Calls Tryz.prog 121 #[.int .i64 cf,.slice ao d.length cap] W' fun e w'=>e=.returned (.tuple #[.int .i64 (loT cf d),.int .i64 (hiT cf d)])/\Below W'.heap.size W' w'):=fun W' h=>refEndsT_c _ cf d W' (x3.below (bT hbw h)) hdl ⟨hc1,hc2⟩
   clear t1 t2 t3 t4 t5 x3 e1 e2
   generalize loT cf d=tlo at *
   generalize hiT cf d=thi at *
   generalize okT d=ok at *
   generalize sizeL (norm d)=sz at *
   generalize loS ds (ps.take k)=slo at *
   generalize hiS ds (ps.take k)=shi at *
   have hbs:Hid (b0<wr.heap.size/\b1<wr.heap.size/\b2<wr.heap.size/\w.heap.size<wr.heap.size):=by
    have:=hbw.size
    exact ⟨by omega,by omega,by omega,by omega⟩
   by_cases hz:sz=0
   ·subst hz
    have hokf:ok=false:=by rw [hok];simp
    subst hokf
    have hall:=T5.out rfl
    clear hok CE
    have HAll:=hD hall
    clear hall
    go_wp2_with (go_at_call 28;(with_reducible refine CS.out.mono ?_);rintro e W2 ⟨rfl,bb⟩;have B2:=hD (bT hbw bb);clear bb)
    go_ret3
    exact ⟨by have e:=HAll.out;show Ending.returned (.tuple #[.int .i64 0,.int .i64 0,.bool false])=_;unfold sLo sHi;rw [e];simp,B2.out⟩
   ·have hzf:(sz==0)=false:=beq_eq_false_iff_ne.2 hz
    have hokt:ok=true:=by rw [hok];simpa using hz
    subst hokt
    clear hok
    go_wp2_with (go_at_call 28;(with_reducible refine CS.out.mono ?_);rintro e W2 ⟨rfl,bb⟩;have BB:=hD bb;clear bb)
    have v0:=(BB.out.cell (p:=⟨w.heap.size,0,none⟩) hbs.out.2.2.2).trans y0
    have v1:=(BB.out.cell (p:=⟨w.heap.size,1,none⟩) hbs.out.2.2.2).trans y1
    have v2:=(BB.out.cell (p:=⟨b0,o0+k,none⟩) hbs.out.1).trans x0
    have v3:=(BB.out.cell (p:=⟨b1,o1'+k,none⟩) hbs.out.2.1).trans x1
    have v4:=(BB.out.cell (p:=⟨b2,o2+n,none⟩) hbs.out.2.2.1).trans x2
    have k0:=qb_cell v0
    have k1:=qb_cell v1
    have k2:=qb_cell v2
    have k3:=qb_cell v3
    have k4:=qb_cell v4
    have CE2:Hid (∀ g:QG W2,Calls Tryz.prog 121 #[.int .i64 cf,.slice ao d.length cap] g.1 fun e w'=>e=.returned (.tuple #[.int .i64 tlo,.int .i64 thi])/\Below g.1.heap.size g.1 w'):=fun g=>CE.out g.1 (bT BB.out g.2)
    clear v0 v1 v2 v3 v4 y0 y1 x0 x1 x2
    refine wp_region_below (by kernel_rfl) (by kernel_rfl) ?_
    repeat (go_big_quiet_step ((go_at_call 121;exact qb_call _ (CE2.out _))))
    refine wpQuiet_nil ?_
    intro w1 hw1
    clear k0 k1 k2 k3 k4
    go_wp2
    exact ⟨⟨k+1,by omega,by go_num,by rw [T1.out],by rw [T2.out],T4.out HA.out (by first | rfl | trivial),HB1.out.trans ((bT BB.out hw1.below).mono hle)⟩,by simp [intOf];omega⟩
  ·obtain rfl:k=ps.length:=by omega
   have hltv:¬ ps.length<vars.length:=by have:=hn.out;have:=hn2.out;omega
   rw [List.take_length] at HA
   rw [List.take_length]
   have HAll:=hD HA.out
   go_wp2
   go_ret3
   exact ⟨by have e:=HAll.out;show Ending.returned (.tuple #[.int .i64 (loS ds ps),.int .i64 (hiS ds ps),.bool true])=_;unfold sLo sHi;rw [e];simp,hbw⟩
theorem fixed_c (va vb vds:Value) (rel c:Int) (coef vars:List Int) (ds:Ds) (w:World) (h0:IsAt w va coef) (h1:IsAt w vb vars) (hd:DsAt w vds ds) (hg:GoodL coef vars ds) :
  Calls Tryz.prog 106 #[.agg #[va,vb,.int .i64 rel,.int .i64 c],vds] w fun e w'=>e=.returned (.bool (fixedB ds (coef.zip vars)))/\Below w.heap.size w w':=by
 obtain ⟨a0,c0,rfl,_⟩:=IsAt.shape h0
 obtain ⟨a1,c1,rfl,_⟩:=IsAt.shape h1
 obtain ⟨a2,c2,rfl,_⟩:=hd.shape
 have HC:=hD (row_facts h0 h1 hd hg)
 have hn:=hD hg.len
 have hn2:=hD hg.zip_len
 have hn16:=hg.le16
 clear h0 h1 hd hg
 generalize hps:coef.zip vars=ps at *
 clear hps
 go_enter Tryz.func106,Tryz.ntmps106
 go_wp2
 have HZ:Hid (Below w.heap.size w (w.alloc (.cells #[.slice a0 coef.length c0,.slice a1 vars.length c1,.int .i64 rel,.int .i64 c] 65))/\(w.alloc (.cells #[.slice a0 coef.length c0,.slice a1 vars.length c1,.int .i64 rel,.int .i64 c] 65)).cell? ⟨w.heap.size,1,none⟩=some (.slice a1 vars.length c1)) :=
  ⟨bA _,by simp⟩
 generalize (w.alloc (.cells #[.slice a0 coef.length c0,.slice a1 vars.length c1,.int .i64 rel,.int .i64 c] 65))=W at HZ |-
 have Y:=hD HZ.out.2
 have HB0:=hD HZ.out.1
 have hwl:w.heap.size<W.heap.size:=World.block_lt_of_cell? W _ Y.out
 have hwz:=HB0.out.size
 clear HZ
 go_loopw [5] (fun s wr=>∃ k:Nat,k<=ps.length/\s=.int .i64 k/\Hid (fixedB ds (ps.take k)=true)/\Below W.heap.size W wr) (fun s _=>ps.length - (intOf s).toNat)
 case atStart=>exact ⟨0,by omega,rfl,rfl,Below.refl _ _⟩
 case round =>
  obtain ⟨k,hk,rfl,HA,hbel⟩:=hrel
  have HB1:=hD hbel
  have hle:=hbel.size
  clear hbel
  have y1:=(HB1.out.cell (p:=⟨w.heap.size,1,none⟩) hwl).trans Y.out
  have hbw:Below w.heap.size w wr:=HB0.out.trans (HB1.out.mono hwz)
  by_cases hlt:k<ps.length
  ·obtain ⟨b0,o0,b1,o1',b2,o2,n,ao,cap,cf,d,⟨rfl,rfl,rfl⟩,⟨l0,l1,l2⟩,⟨q0,q1,q2⟩,hnn,x0,x1,x2,x3,e1,e2,hdl,hc1,hc2⟩:=HC.out k hlt
   rw [<- hbw.cell (p:=⟨b1,o1'+k,none⟩) q1] at x1
   rw [<- hbw.cell (p:=⟨b2,o2+n,none⟩) q2] at x2
   have j2:(k:Int)<vars.length:=by have:=hn.out;have:=hn2.out;omega
   have j3:(n:Int)<ds.length:=by omega
   have j4:(k:Int)<=16:=by have:=hn2.out;omega
   have hst:Hid (fixedB ds (ps.take (k+1))=(fixedB ds (ps.take k)&&decide (sizeL (norm d)=1))/\(¬ sizeL (norm d)=1->fixedB ds ps=false)):=by
    constructor
    ·rw [List.take_succ_eq_append_getElem hlt,e1];simp only [fixedB,List.all_append,List.all_cons,List.all_nil,Bool.and_true,e2]
    ·intro h
     unfold fixedB
     rw [List.all_eq_false]
     exact ⟨ps[k],List.getElem_mem _,by rw [e1];simp only [e2];simpa using h⟩
   have CS:Hid (Calls Tryz.prog 28 #[.slice ao d.length cap] wr fun e w'=>e=.returned (.int .i64 (sizeL (norm d)))/\Below wr.heap.size wr w'):=refSize_c _ d wr (x3.below hbw) hdl
   clear x3 e1 e2 x0
   generalize sizeL (norm d)=sz at *
   by_cases hz:sz=1
   ·subst hz
    go_wp2_with (go_at_call 28;(with_reducible refine CS.out.mono ?_);rintro e W2 ⟨rfl,bb⟩;have B2:=hD (HB1.out.trans (bb.mono hle));clear bb)
    exact ⟨⟨k+1,by omega,by go_num,by show _=_;rw [hst.out.1,HA.out];rfl,B2.out⟩,by simp [intOf];omega⟩
   ·have hzf:(sz==1)=false:=beq_eq_false_iff_ne.2 hz
    have hno:=hD (hst.out.2 hz)
    go_wp2_with (go_at_call 28;(with_reducible refine CS.out.mono ?_);rintro e W2 ⟨rfl,bb⟩;have B2:=hD (bT hbw bb);clear bb)
    go_ret
    exact ⟨by rw [hno.out];rfl,B2.out⟩
  ·obtain rfl:k=ps.length:=by omega
   have hltv:¬ ps.length<vars.length:=by have:=hn.out;have:=hn2.out;omega
   rw [List.take_length] at HA
   go_wp2
   go_ret
   exact ⟨by rw [HA.out];rfl,hbw⟩
theorem stays_c (v0 v1:Value) (rel C:Int) (coef:List Int) (k:Nat) (cf x lo hi:Int) (one:Bool) (w:World) (h0:IsAt w v0 coef)
  (hk:k<coef.length) (hcf:coef[k]=cf) (hc:-100000<=cf/\cf<=100000) (hx:-200<=x/\x<=200) (hr:rel=1\/rel=2\/rel=3) (hC:-1099511627778<=C/\C<=1099511627778) :
  Calls Tryz.prog 107 #[.agg #[v0,v1,.int .i64 rel,.int .i64 C],.int .i64 k,.int .i64 x,.int .i64 lo,.int .i64 hi,.bool one] w fun e w'=>e=.returned (.bool (staysR rel C cf lo hi one x))/\Below w.heap.size w w':=by
 obtain ⟨a0,c0,rfl,_⟩:=IsAt.shape h0
 obtain ⟨b,off,rfl,hcap,hbs,hcell⟩:=h0.get k hk
 rw [hcf] at hcell
 have j1:(k:Int)<coef.length:=by omega
 obtain ⟨m1,m2⟩:=mul_bnd x cf 100000 hx hc
 obtain ⟨hC1,hC2⟩:=hC
 have hbx:b≠w.heap.size:=by omega
 have w1:=wrap_small (x:=cf * x) (by omega)
 have w2:=wrap_small (x:=C - cf * x) (by omega)
 unfold staysR
 clear h0
 generalize hy:cf * x=y at *
 have Z0:Hid (∀ T1,Below w.heap.size w (w.alloc (.cells #[.slice (some ⟨b,off,none⟩) coef.length c0,v1,.int .i64 rel,.int .i64 C] T1))):=fun T1=>bA _
 rcases hr with rfl | rfl | rfl
 ·by_cases h1:lo<=C - y <;> by_cases h2:C - y<=hi
  all_goals
   go_enter Tryz.func107,Tryz.ntmps107
   go_wp2
   go_quiet (fail)
   go_wp2
   go_ret
   exact ⟨ret_bool (by simp [h1,h2]),below_drewN (Z0.out _) _⟩
 ·cases one <;> by_cases h1:C - y=lo
  all_goals
   go_enter Tryz.func107,Tryz.ntmps107
   go_wp2
   go_quiet (fail)
   go_wp2
   go_ret
   exact ⟨ret_bool (by simp [h1]),below_drewN (Z0.out _) _⟩
 ·go_enter Tryz.func107,Tryz.ntmps107
  go_wp2
  go_quiet (fail)
  go_wp2
  go_ret
  exact ⟨ret_bool (by simp),below_drewN (Z0.out _) _⟩
theorem joined_c (va:Value) (G:List Rg) (w:World) (ha:RgAt w va G) (hla:G.length<=401) (hG:∀ r∈G,-200<=r.2/\r.2<=200) :
  Calls Tryz.prog 108 #[va] w (RetR (glueL G) w):=by
 obtain ⟨i0,hi,hz0,hz1,hz2⟩:=info_parts Tryz.infoRg
 obtain ⟨ao,cap,rfl,_⟩:=ha.shape
 have HA:=hD ha
 have HG:=hD hG
 clear ha hG
 go_enter Tryz.func108,Tryz.ntmps108
 go_wp2
 go_loopw [3,4] (fun o s wr=>∃ k:Nat,k<=G.length/\s=.int .i64 k/\wr.ownsRow w.heap.size 77 2 o (glueL (G.take k)).length (cellsR (glueL (G.take k)))/\Below w.heap.size w wr) (fun _ s _=>G.length - (intOf s).toNat)
 case atStart=>exact ⟨0,by omega,rfl,World.ownsRow_made w #[] 0 (rN _) (by decide) rfl,bA _⟩
 case round =>
  obtain ⟨k,hk,rfl,hown,hbel⟩:=hrel
  have HB:=hD hbel
  have hle:=hbel.size
  have hol:(glueL (G.take k)).length<=401:=by
   have h1:=glueL_len (G.take k)
   have h2:(G.take k).length<=k:=List.length_take_le ..
   omega
  clear hbel
  by_cases hlt:k<G.length
  ·obtain ⟨b,off,c',he,hcap,hbs,hc⟩:=RgAt.at HA.out (by omega)
   simp only [Value.slice.injEq,true_and] at he
   obtain ⟨rfl,rfl⟩:=he
   obtain ⟨c1,c2⟩:=hc k hlt
   rw [<- HB.out.cell (p:=⟨b,off+k * 2,none⟩) hbs] at c1
   rw [<- HB.out.cell (p:=⟨b,off+k * 2+1,none⟩) hbs] at c2
   have j1:(k:Int)<G.length:=by omega
   have hbd:=HG.out _ (List.getElem_mem hlt)
   have hob:=glueL_bnd (G.take k) (fun r hr=>HG.out r (List.mem_of_mem_take hr))
   have HT:=glueL_snoc (G.take k) G[k]
   rw [<- List.take_succ_eq_append_getElem hlt] at HT
   obtain ⟨r,hr⟩:∃ r,r=G[k]:=⟨_,rfl⟩
   rw [<- hr] at c1 c2 HT hbd
   clear hc hr
   obtain ⟨hd1,hd2⟩:=hbd
   generalize glueL (G.take k)=O at *
   rcases List.eq_nil_or_concat O with rfl | ⟨M,p,rfl⟩
   ·rw [glue_nil] at HT
    have HT:=hD HT
    obtain ⟨oa,oc,rfl,_⟩:=(SlAt.of_own hown).shape
    rw [show ([]:List Rg).length=0 from rfl] at hown |-
    clear hob
    have hdz:decide ((0:Nat) > 0)=false:=rfl
    go_wp2
    go_quiet (fail)
    have hown2:(wr.drewN nq).ownsRow w.heap.size 77 2 (.slice oa 0 oc) 0 (cellsR []):=hown
    have HB2:Hid (Below w.heap.size w (wr.drewN nq)):=below_drewN HB.out _
    have hle2:w.heap.size<=(wr.drewN nq).heap.size:=hle
    have d1:(wr.drewN nq).cell? ⟨b,off+k * 2,none⟩=some (.int .i64 r.1):=c1
    have d2:(wr.drewN nq).cell? ⟨b,off+k * 2+1,none⟩=some (.int .i64 r.2):=c2
    clear c1 c2 hown
    generalize wr.drewN nq=w2 at *
    go_wp2_with (at_builtin;refine wpList_append2 rfl (.tmp 42) (.tmp 47) 61 rfl w.heap.size 77 i0 (.agg #[.int .i64 0,.int .i64 0]) 16 Tryz.underlying61 hi hz0 hz1 hz2 rfl _ _ _ rfl hown2 _ _ rfl rfl rfl rfl (by omega) hle2 ?_;intro v1 w1 o1 bw n1)
    refine ⟨⟨k+1,by omega,by go_num,?_,HB2.out.trans bw⟩,by simp [intOf];omega⟩
    rw [HT.out];exact o1
   ·rw [List.concat_eq_append] at *
    rw [glue_snoc] at HT
    obtain ⟨g,oc,rfl,hgb,hcells⟩:=owns_pos hown (by simp)
    have gf:=hown.frozenAt (M.length * 2+1)
    have HQ:=hD (hown.stored (M.length * 2+1) (.int .i64 r.2))
    have g1:=hcells (M.length * 2+1) (by simp;omega)
    rw [(cellsR_at (M++[p]) M.length (by simp)).2] at g1
    have hML:(M++[p]).length=M.length+1:=by simp
    have hpe:(M++[p])[M.length]=p:=by simp
    rw [hpe] at g1
    obtain ⟨hp1,hp2⟩:=hob p (by simp)
    rw [hML] at hown hol |-
    rw [hML] at HQ
    clear hcells hob hpe
    have hdz:decide ((M.length:Int)+1 > 0)=true:=decide_eq_true (by omega)
    have HML:=hD hML
    clear hML
    by_cases hpr:p.2+1=r.1
    ·rw [if_pos hpr] at HT
     have hpe:(p.2+1==r.1)=true:=by simpa using hpr
     have HT:=hD HT
     clear hpr hown
     go_wp2
     go_quiet (fail)
     have d2:(wr.drewN nq).cell? ⟨b,off+k * 2+1,none⟩=some (.int .i64 r.2):=c2
     have d3:(wr.drewN nq).cell? ⟨g,M.length * 2+1,none⟩=some (.int .i64 p.2):=g1
     have d4:(wr.drewN nq).frozen? ⟨g,M.length * 2+1,none⟩=false:=gf
     go_wp2
     refine ⟨⟨k+1,by omega,by go_num,?_,?_⟩,by simp [intOf];omega⟩
     ·rw [HT.out,<- cellsR_last,List.length_append]
      exact HQ.out.1
     ·exact (below_drewN HB.out nq).setCell (p:=⟨g,M.length * 2+1,none⟩) hgb _
    ·rw [if_neg hpr] at HT
     have hpe:(p.2+1==r.1)=false:=by simpa using hpr
     have HT:=hD HT
     clear hpr HQ
     go_wp2
     go_quiet (fail)
     have hown2:(wr.drewN nq).ownsRow w.heap.size 77 2 (.slice (some ⟨g,0,none⟩) (M.length+1) oc) (M.length+1) (cellsR (M++[p])):=hown
     have HB2:Hid (Below w.heap.size w (wr.drewN nq)):=below_drewN HB.out _
     have hle2:w.heap.size<=(wr.drewN nq).heap.size:=hle
     have d1:(wr.drewN nq).cell? ⟨b,off+k * 2,none⟩=some (.int .i64 r.1):=c1
     have d2:(wr.drewN nq).cell? ⟨b,off+k * 2+1,none⟩=some (.int .i64 r.2):=c2
     clear c1 c2 hown g1 gf
     generalize wr.drewN nq=w2 at *
     go_wp2_with (at_builtin;refine wpList_append2 rfl (.tmp 42) (.tmp 47) 61 rfl w.heap.size 77 i0 (.agg #[.int .i64 0,.int .i64 0]) 16 Tryz.underlying61 hi hz0 hz1 hz2 rfl _ _ _ rfl hown2 _ _ rfl rfl rfl rfl (by omega) hle2 ?_;intro v1 w1 o1 bw n1)
     refine ⟨⟨k+1,by omega,by go_num,?_,HB2.out.trans bw⟩,by simp [intOf];omega⟩
     rw [HT.out,List.length_append,cellsR_append,HML.out];exact o1
  ·obtain rfl:k=G.length:=by omega
   rw [List.take_length] at hown hol
   obtain ⟨oa,oc,rfl,_⟩:=(SlAt.of_own hown).shape
   go_wp2
   go_ret
   exact ⟨_,_,rfl,RgAt.own hown,HB.out⟩

end
end Go.Proofs.YtaekdgikgbdnnaaGreat
